import Derived.Test.YtngiokdbbjbpfaaGreatG81
namespace Go.Proofs.YtngiokdbbjbpfaaGreat
open Go.Am
set_option maxRecDepth 100000
set_option linter.unusedSimpArgs false
set_option linter.unusedVariables false
noncomputable def c94 : Code := codeOf Tryz.f94
noncomputable def k94 : Kt := finK P0 Tryz.f94.results.toList
noncomputable def S94_0 (c : CF) (t5 : AV) (h : Heap) : Res := some ((.tup [t5,(iL 0),(iL 0)]),h)
theorem TS94_0 (c : CF) : (rk P0 c 147 c94.s4).1 k94 [] k94 gK = L1 (S94_0 c) 5 := by funext s h; kernel_rfl
noncomputable def S94_3 (c : CF) (r1 : A3) (r2 : A3) (t0 t5 t6 : AV) (h : Heap) : Res := opt (fastBin .add t6 (iL 1)) fun t95 => r2 t0 t5 t95 h
theorem TS94_3 (c : CF) (r1 : A3) (r2 : A3) : (rk P0 c 147 c94.s3.fst.snd.bd.bd.snd.bd.snd.bd.snd.els.snd.thn.bd.bd.snd).1 (L3 r2 0 5 6) [(5,(L3 r1 0 5 6)),(2,(L3 r1 0 5 6)),(1,(L3 r1 0 5 6)),(0,(L1 (S94_0 c) 5))] k94 gK = L3 (S94_3 c r1 r2) 0 5 6 := by funext s h; kernel_rfl
noncomputable def S94_4b (c : CF) (r1 : A3) (r2 : A3) (t0 t5 t6 : AV) (h : Heap) : Res := opt (lenStr t0) fun t86 => opt (fastBin .lss t6 t86) fun t87 => test t87 (opt (fastIndex t0 t6) fun t91 => opt (fastBin .neq t91 (uL 10)) fun t92 => test t92 (S94_3 c r1 r2 t0 t5 t6 h) (r1 t0 t5 t6 h)) (r1 t0 t5 t6 h)
theorem TS94_4b (c : CF) (r1 : A3) (r2 : A3) : (rk P0 c 147 c94.s3.fst.snd.bd.bd.snd.bd.snd.bd.snd.els.snd.thn.bd.bd).1 (L3 r2 0 5 6) [(5,(L3 r1 0 5 6)),(2,(L3 r1 0 5 6)),(1,(L3 r1 0 5 6)),(0,(L1 (S94_0 c) 5))] k94 gK = L3 (S94_4b c r1 r2) 0 5 6 := Eq.trans (seq_t (by kernel_rfl) (TS94_3 c r1 r2) rfl) (by funext s h; kernel_rfl)
noncomputable def S94_2l (c : CF) (r1 : A3) : Nat → A3
  | 0 => fun _ _ _ _ => none
  | k + 1 => S94_4b c r1 (S94_2l c r1 k)
theorem TS94_2l (c : CF) (r1 : A3) : (rk P0 c 147 c94.s3.fst.snd.bd.bd.snd.bd.snd.bd.snd.els.snd.thn.bd).1 (L3 r1 0 5 6) [(5,(L3 r1 0 5 6)),(2,(L3 r1 0 5 6)),(1,(L3 r1 0 5 6)),(0,(L1 (S94_0 c) 5))] k94 gK = L3 (S94_2l c r1 rounds) 0 5 6 := loop_t (by kernel_rfl) (loop_ind (A := fun m => L3 (S94_2l c r1 m) 0 5 6) rfl (fun m => TS94_4b c r1 (S94_2l c r1 m)) rounds)
noncomputable def S94_5 (c : CF) (r1 : A3) (t0 t5 t6 t12 : AV) (h : Heap) : Res := opt (fastCut t0 (some t6) (some t12) none) fun t71 => opt (buildX [(iL 0),(iL 0),eL] [(0,1),(1,1),(2,1)] [(0,(iL 3)),(1,t6),(2,t71)]) fun t72 => opt2 (bsliceX 3 (.agg [(iL 0),(iL 0),eL]) 1 [(0,t72)] h) fun t73 h1 => opt2 (appendX 3 32 t5 t73 h1) fun t74 h2 => r1 t0 t74 t12 h2
theorem TS94_5 (c : CF) (r1 : A3) : (rk P0 c 147 c94.s3.fst.snd.bd.bd.snd.bd.snd.bd.snd.els.snd.els.snd.els.snd.els.snd.els.snd.els.s2).1 (L3 r1 0 5 6) [(2,(L3 r1 0 5 6)),(1,(L3 r1 0 5 6)),(0,(L1 (S94_0 c) 5))] k94 gK = L4 (S94_5 c r1) 0 5 6 12 := by funext s h; kernel_rfl
noncomputable def S94_7 (c : CF) (r1 : A3) (r6 : A4) (t0 t5 t6 t12 : AV) (h : Heap) : Res := opt (fastBin .add t12 (iL 1)) fun t65 => r6 t0 t5 t6 t65 h
theorem TS94_7 (c : CF) (r1 : A3) (r6 : A4) : (rk P0 c 147 c94.s3.fst.snd.bd.bd.snd.bd.snd.bd.snd.els.snd.els.snd.els.snd.els.snd.els.snd.els.snd.fst.bd.bd.snd).1 (L4 r6 0 5 6 12) [(3,(L4 (S94_5 c r1) 0 5 6 12)),(2,(L3 r1 0 5 6)),(1,(L3 r1 0 5 6)),(0,(L1 (S94_0 c) 5))] k94 gK = L4 (S94_7 c r1 r6) 0 5 6 12 := by funext s h; kernel_rfl
noncomputable def S94_8b (c : CF) (r1 : A3) (r6 : A4) (t0 t5 t6 t12 : AV) (h : Heap) : Res := opt (lenStr t0) fun t26 => opt (fastBin .lss t12 t26) fun t27 => test t27 (opt (fastIndex t0 t12) fun t31 => opt (fastBin .geq t31 (uL 33)) fun t32 => test t32 (opt (fastIndex t0 t12) fun t37 => opt (fastBin .leq t37 (uL 126)) fun t38 => test t38 (opt (fastIndex t0 t12) fun t43 => opt (fastBin .neq t43 (uL 59)) fun t44 => test t44 (opt (fastIndex t0 t12) fun t49 => opt (fastBin .neq t49 (uL 40)) fun t50 => test t50 (opt (fastIndex t0 t12) fun t55 => opt (fastBin .neq t55 (uL 41)) fun t56 => test t56 (opt (fastIndex t0 t12) fun t61 => opt (fastBin .neq t61 (uL 34)) fun t62 => test t62 (S94_7 c r1 r6 t0 t5 t6 t12 h) (S94_5 c r1 t0 t5 t6 t12 h)) (S94_5 c r1 t0 t5 t6 t12 h)) (S94_5 c r1 t0 t5 t6 t12 h)) (S94_5 c r1 t0 t5 t6 t12 h)) (S94_5 c r1 t0 t5 t6 t12 h)) (S94_5 c r1 t0 t5 t6 t12 h)) (S94_5 c r1 t0 t5 t6 t12 h)
theorem TS94_8b (c : CF) (r1 : A3) (r6 : A4) : (rk P0 c 147 c94.s3.fst.snd.bd.bd.snd.bd.snd.bd.snd.els.snd.els.snd.els.snd.els.snd.els.snd.els.snd.fst.bd.bd).1 (L4 r6 0 5 6 12) [(3,(L4 (S94_5 c r1) 0 5 6 12)),(2,(L3 r1 0 5 6)),(1,(L3 r1 0 5 6)),(0,(L1 (S94_0 c) 5))] k94 gK = L4 (S94_8b c r1 r6) 0 5 6 12 := Eq.trans (seq_t (by kernel_rfl) (TS94_7 c r1 r6) rfl) (by funext s h; kernel_rfl)
noncomputable def S94_6l (c : CF) (r1 : A3) : Nat → A4
  | 0 => fun _ _ _ _ _ => none
  | k + 1 => S94_8b c r1 (S94_6l c r1 k)
theorem TS94_6l (c : CF) (r1 : A3) : (rk P0 c 147 c94.s3.fst.snd.bd.bd.snd.bd.snd.bd.snd.els.snd.els.snd.els.snd.els.snd.els.snd.els.snd.fst.bd).1 (L4 (S94_5 c r1) 0 5 6 12) [(3,(L4 (S94_5 c r1) 0 5 6 12)),(2,(L3 r1 0 5 6)),(1,(L3 r1 0 5 6)),(0,(L1 (S94_0 c) 5))] k94 gK = L4 (S94_6l c r1 rounds) 0 5 6 12 := loop_t (by kernel_rfl) (loop_ind (A := fun m => L4 (S94_6l c r1 m) 0 5 6 12) rfl (fun m => TS94_8b c r1 (S94_6l c r1 m)) rounds)
noncomputable def S94_9 (c : CF) (r1 : A3) (t0 t5 t6 t12 : AV) (h : Heap) : Res := S94_6l c r1 rounds t0 t5 t6 t12 h
theorem TS94_9 (c : CF) (r1 : A3) : (rk P0 c 147 c94.s3.fst.snd.bd.bd.snd.bd.snd.bd.snd.els.snd.els.snd.els.snd.els.snd.els.snd.els.snd).1 (L3 r1 0 5 6) [(2,(L3 r1 0 5 6)),(1,(L3 r1 0 5 6)),(0,(L1 (S94_0 c) 5))] k94 gK = L4 (S94_9 c r1) 0 5 6 12 := Eq.trans (seq_t (by kernel_rfl) (TS94_5 c r1) (block_t (id := 3) (by kernel_rfl) (TS94_6l c r1))) (by funext s h; kernel_rfl)
noncomputable def S94_10 (c : CF) (r1 : A3) (t0 t5 t6 : AV) (h : Heap) : Res := S94_9 c r1 t0 t5 t6 t6 h
theorem TS94_10 (c : CF) (r1 : A3) : (rk P0 c 147 c94.s3.fst.snd.bd.bd.snd.bd.snd.bd.snd.els.snd.els.snd.els.snd.els.snd.els.snd.els).1 (L3 r1 0 5 6) [(2,(L3 r1 0 5 6)),(1,(L3 r1 0 5 6)),(0,(L1 (S94_0 c) 5))] k94 gK = L3 (S94_10 c r1) 0 5 6 := Eq.trans (seq_t (by kernel_rfl) (TS94_9 c r1) rfl) (by funext s h; kernel_rfl)
noncomputable def S94_11 (c : CF) (r1 : A3) (t0 t5 t6 t138 : AV) (h : Heap) : Res := test t138 (some ((.tup [nL,(iL 12),t6]),h)) (S94_10 c r1 t0 t5 t6 h)
theorem TS94_11 (c : CF) (r1 : A3) : (rk P0 c 147 c94.s3.fst.snd.bd.bd.snd.bd.snd.bd.snd.els.snd.els.snd.els.snd.els.snd.els.snd).1 (L3 r1 0 5 6) [(2,(L3 r1 0 5 6)),(1,(L3 r1 0 5 6)),(0,(L1 (S94_0 c) 5))] k94 gK = L4 (S94_11 c r1) 0 5 6 138 := Eq.trans (cond_t (by kernel_rfl) rfl (TS94_10 c r1)) (by funext s h; kernel_rfl)
noncomputable def S94_12 (c : CF) (r1 : A3) (t0 t5 t6 t7 : AV) (h : Heap) : Res := opt (fastBin .lss t7 (uL 33)) fun t140 => test t140 (S94_11 c r1 t0 t5 t6 tL h) (opt (fastBin .gtr t7 (uL 126)) fun t143 => S94_11 c r1 t0 t5 t6 t143 h)
theorem TS94_12 (c : CF) (r1 : A3) : (rk P0 c 147 c94.s3.fst.snd.bd.bd.snd.bd.snd.bd.snd.els.snd.els.snd.els.snd.els.snd.els).1 (L3 r1 0 5 6) [(2,(L3 r1 0 5 6)),(1,(L3 r1 0 5 6)),(0,(L1 (S94_0 c) 5))] k94 gK = L4 (S94_12 c r1) 0 5 6 7 := Eq.trans (seq_t (by kernel_rfl) (TS94_11 c r1) rfl) (by funext s h; kernel_rfl)
noncomputable def S94_13 (c : CF) (r1 : A3) (t0 t5 t6 t7 t116 : AV) (h : Heap) : Res := test t116 (opt2 (c 151 [t0,t6] h) fun t122 h1 => opt (extractX t122 0) fun t123 => opt (extractX t122 1) fun t124 => opt (extractX t122 2) fun t125 => opt (extractX t122 3) fun t126 => opt (fastBin .neq t125 (iL 0)) fun t128 => test t128 (some ((.tup [nL,t125,t126]),h1)) (opt (buildX [(iL 0),(iL 0),eL] [(0,1),(1,1),(2,1)] [(0,(iL 4)),(1,t6),(2,t123)]) fun t134 => opt2 (bsliceX 3 (.agg [(iL 0),(iL 0),eL]) 1 [(0,t134)] h1) fun t135 h2 => opt2 (appendX 3 32 t5 t135 h2) fun t136 h3 => r1 t0 t136 t124 h3)) (S94_12 c r1 t0 t5 t6 t7 h)
theorem TS94_13 (c : CF) (r1 : A3) : (rk P0 c 147 c94.s3.fst.snd.bd.bd.snd.bd.snd.bd.snd.els.snd.els.snd.els.snd.els.snd).1 (L3 r1 0 5 6) [(2,(L3 r1 0 5 6)),(1,(L3 r1 0 5 6)),(0,(L1 (S94_0 c) 5))] k94 gK = L5 (S94_13 c r1) 0 5 6 7 116 := Eq.trans (cond_t (by kernel_rfl) rfl (TS94_12 c r1)) (by funext s h; kernel_rfl)
noncomputable def S94_14 (c : CF) (r1 : A3) (t0 t5 t6 t7 : AV) (h : Heap) : Res := opt (fastBin .eql t7 (uL 34)) fun t118 => S94_13 c r1 t0 t5 t6 t7 t118 h
theorem TS94_14 (c : CF) (r1 : A3) : (rk P0 c 147 c94.s3.fst.snd.bd.bd.snd.bd.snd.bd.snd.els.snd.els.snd.els.snd.els).1 (L3 r1 0 5 6) [(2,(L3 r1 0 5 6)),(1,(L3 r1 0 5 6)),(0,(L1 (S94_0 c) 5))] k94 gK = L4 (S94_14 c r1) 0 5 6 7 := Eq.trans (seq_t (by kernel_rfl) (TS94_13 c r1) rfl) (by funext s h; kernel_rfl)
noncomputable def S94_15 (c : CF) (r1 : A3) (t0 t5 t6 t7 t106 : AV) (h : Heap) : Res := test t106 (opt (buildX [(iL 0),(iL 0),eL] [(0,1),(1,1),(2,1)] [(0,(iL 2)),(1,t6),(2,eL)]) fun t111 => opt2 (bsliceX 3 (.agg [(iL 0),(iL 0),eL]) 1 [(0,t111)] h) fun t112 h1 => opt2 (appendX 3 32 t5 t112 h1) fun t113 h2 => opt (fastBin .add t6 (iL 1)) fun t115 => r1 t0 t113 t115 h2) (S94_14 c r1 t0 t5 t6 t7 h)
theorem TS94_15 (c : CF) (r1 : A3) : (rk P0 c 147 c94.s3.fst.snd.bd.bd.snd.bd.snd.bd.snd.els.snd.els.snd.els.snd).1 (L3 r1 0 5 6) [(2,(L3 r1 0 5 6)),(1,(L3 r1 0 5 6)),(0,(L1 (S94_0 c) 5))] k94 gK = L5 (S94_15 c r1) 0 5 6 7 106 := Eq.trans (cond_t (by kernel_rfl) rfl (TS94_14 c r1)) (by funext s h; kernel_rfl)
noncomputable def S94_16 (c : CF) (r1 : A3) (t0 t5 t6 t7 : AV) (h : Heap) : Res := opt (fastBin .eql t7 (uL 41)) fun t108 => S94_15 c r1 t0 t5 t6 t7 t108 h
theorem TS94_16 (c : CF) (r1 : A3) : (rk P0 c 147 c94.s3.fst.snd.bd.bd.snd.bd.snd.bd.snd.els.snd.els.snd.els).1 (L3 r1 0 5 6) [(2,(L3 r1 0 5 6)),(1,(L3 r1 0 5 6)),(0,(L1 (S94_0 c) 5))] k94 gK = L4 (S94_16 c r1) 0 5 6 7 := Eq.trans (seq_t (by kernel_rfl) (TS94_15 c r1) rfl) (by funext s h; kernel_rfl)
noncomputable def S94_17 (c : CF) (r1 : A3) (t0 t5 t6 t7 t96 : AV) (h : Heap) : Res := test t96 (opt (buildX [(iL 0),(iL 0),eL] [(0,1),(1,1),(2,1)] [(0,(iL 1)),(1,t6),(2,eL)]) fun t101 => opt2 (bsliceX 3 (.agg [(iL 0),(iL 0),eL]) 1 [(0,t101)] h) fun t102 h1 => opt2 (appendX 3 32 t5 t102 h1) fun t103 h2 => opt (fastBin .add t6 (iL 1)) fun t105 => r1 t0 t103 t105 h2) (S94_16 c r1 t0 t5 t6 t7 h)
theorem TS94_17 (c : CF) (r1 : A3) : (rk P0 c 147 c94.s3.fst.snd.bd.bd.snd.bd.snd.bd.snd.els.snd.els.snd).1 (L3 r1 0 5 6) [(2,(L3 r1 0 5 6)),(1,(L3 r1 0 5 6)),(0,(L1 (S94_0 c) 5))] k94 gK = L5 (S94_17 c r1) 0 5 6 7 96 := Eq.trans (cond_t (by kernel_rfl) rfl (TS94_16 c r1)) (by funext s h; kernel_rfl)
noncomputable def S94_18 (c : CF) (r1 : A3) (t0 t5 t6 : AV) (h : Heap) : Res := S94_2l c r1 rounds t0 t5 t6 h
theorem TS94_18 (c : CF) (r1 : A3) : (rk P0 c 147 c94.s3.fst.snd.bd.bd.snd.bd.snd.bd.snd.els.snd.thn).1 (L3 r1 0 5 6) [(2,(L3 r1 0 5 6)),(1,(L3 r1 0 5 6)),(0,(L1 (S94_0 c) 5))] k94 gK = L3 (S94_18 c r1) 0 5 6 := Eq.trans (block_t (id := 5) (by kernel_rfl) (TS94_2l c r1)) (by funext s h; kernel_rfl)
noncomputable def S94_19 (c : CF) (r1 : A3) (t0 t5 t6 t7 : AV) (h : Heap) : Res := opt (fastBin .eql t7 (uL 40)) fun t98 => S94_17 c r1 t0 t5 t6 t7 t98 h
theorem TS94_19 (c : CF) (r1 : A3) : (rk P0 c 147 c94.s3.fst.snd.bd.bd.snd.bd.snd.bd.snd.els.snd.els).1 (L3 r1 0 5 6) [(2,(L3 r1 0 5 6)),(1,(L3 r1 0 5 6)),(0,(L1 (S94_0 c) 5))] k94 gK = L4 (S94_19 c r1) 0 5 6 7 := Eq.trans (seq_t (by kernel_rfl) (TS94_17 c r1) rfl) (by funext s h; kernel_rfl)
noncomputable def S94_20 (c : CF) (r1 : A3) (t0 t5 t6 t7 t81 : AV) (h : Heap) : Res := test t81 (S94_18 c r1 t0 t5 t6 h) (S94_19 c r1 t0 t5 t6 t7 h)
theorem TS94_20 (c : CF) (r1 : A3) : (rk P0 c 147 c94.s3.fst.snd.bd.bd.snd.bd.snd.bd.snd.els.snd).1 (L3 r1 0 5 6) [(2,(L3 r1 0 5 6)),(1,(L3 r1 0 5 6)),(0,(L1 (S94_0 c) 5))] k94 gK = L5 (S94_20 c r1) 0 5 6 7 81 := Eq.trans (cond_t (by kernel_rfl) (TS94_18 c r1) (TS94_19 c r1)) (by funext s h; kernel_rfl)
noncomputable def S94_21 (c : CF) (r1 : A3) (t0 t5 t6 t7 : AV) (h : Heap) : Res := opt (fastBin .eql t7 (uL 59)) fun t83 => S94_20 c r1 t0 t5 t6 t7 t83 h
theorem TS94_21 (c : CF) (r1 : A3) : (rk P0 c 147 c94.s3.fst.snd.bd.bd.snd.bd.snd.bd.snd.els).1 (L3 r1 0 5 6) [(2,(L3 r1 0 5 6)),(1,(L3 r1 0 5 6)),(0,(L1 (S94_0 c) 5))] k94 gK = L4 (S94_21 c r1) 0 5 6 7 := Eq.trans (seq_t (by kernel_rfl) (TS94_20 c r1) rfl) (by funext s h; kernel_rfl)
noncomputable def S94_22 (c : CF) (r1 : A3) (t0 t5 t6 t7 t76 : AV) (h : Heap) : Res := test t76 (opt (fastBin .add t6 (iL 1)) fun t80 => r1 t0 t5 t80 h) (S94_21 c r1 t0 t5 t6 t7 h)
theorem TS94_22 (c : CF) (r1 : A3) : (rk P0 c 147 c94.s3.fst.snd.bd.bd.snd.bd.snd.bd.snd).1 (L3 r1 0 5 6) [(2,(L3 r1 0 5 6)),(1,(L3 r1 0 5 6)),(0,(L1 (S94_0 c) 5))] k94 gK = L5 (S94_22 c r1) 0 5 6 7 76 := Eq.trans (cond_t (by kernel_rfl) rfl (TS94_21 c r1)) (by funext s h; kernel_rfl)
noncomputable def S94_23 (c : CF) (r1 : A3) (t0 t5 t6 t7 : AV) (h : Heap) : Res := opt2 (c 150 [t7] h) fun t78 h1 => S94_22 c r1 t0 t5 t6 t7 t78 h1
theorem TS94_23 (c : CF) (r1 : A3) : (rk P0 c 147 c94.s3.fst.snd.bd.bd.snd.bd.snd).1 (L3 r1 0 5 6) [(1,(L3 r1 0 5 6)),(0,(L1 (S94_0 c) 5))] k94 gK = L4 (S94_23 c r1) 0 5 6 7 := Eq.trans (block_t (id := 2) (by kernel_rfl) (seq_t (by kernel_rfl) (TS94_22 c r1) rfl)) (by funext s h; kernel_rfl)
noncomputable def S94_24 (c : CF) (r1 : A3) (t0 t5 t6 : AV) (h : Heap) : Res := opt (fastIndex t0 t6) fun t22 => S94_23 c r1 t0 t5 t6 t22 h
theorem TS94_24 (c : CF) (r1 : A3) : (rk P0 c 147 c94.s3.fst.snd.bd.bd.snd).1 (L3 r1 0 5 6) [(0,(L1 (S94_0 c) 5))] k94 gK = L3 (S94_24 c r1) 0 5 6 := Eq.trans (block_t (id := 1) (by kernel_rfl) (seq_t (by kernel_rfl) (TS94_23 c r1) rfl)) (by funext s h; kernel_rfl)
noncomputable def S94_25b (c : CF) (r1 : A3) (t0 t5 t6 : AV) (h : Heap) : Res := opt (lenStr t0) fun t18 => opt (fastBin .lss t6 t18) fun t19 => test t19 (S94_24 c r1 t0 t5 t6 h) (S94_0 c t5 h)
theorem TS94_25b (c : CF) (r1 : A3) : (rk P0 c 147 c94.s3.fst.snd.bd.bd).1 (L3 r1 0 5 6) [(0,(L1 (S94_0 c) 5))] k94 gK = L3 (S94_25b c r1) 0 5 6 := Eq.trans (seq_t (by kernel_rfl) (TS94_24 c r1) rfl) (by funext s h; kernel_rfl)
noncomputable def S94_1l (c : CF) : Nat → A3
  | 0 => fun _ _ _ _ => none
  | k + 1 => S94_25b c (S94_1l c k)
theorem TS94_1l (c : CF) : (rk P0 c 147 c94.s3.fst.snd.bd).1 (L1 (S94_0 c) 5) [(0,(L1 (S94_0 c) 5))] k94 gK = L3 (S94_1l c rounds) 0 5 6 := loop_t (by kernel_rfl) (loop_ind (A := fun m => L3 (S94_1l c m) 0 5 6) rfl (fun m => TS94_25b c (S94_1l c m)) rounds)
noncomputable def S94_26 (c : CF) (t0 t5 t6 : AV) (h : Heap) : Res := S94_1l c rounds t0 t5 t6 h
theorem TS94_26 (c : CF) : (rk P0 c 147 c94.s3.fst.snd).1 (L1 (S94_0 c) 5) [] k94 gK = L3 (S94_26 c) 0 5 6 := Eq.trans (block_t (id := 0) (by kernel_rfl) (TS94_1l c)) (by funext s h; kernel_rfl)
noncomputable def S94_27 (c : CF) (t0 t5 : AV) (h : Heap) : Res := S94_26 c t0 t5 (iL 0) h
theorem TS94_27 (c : CF) : (rk P0 c 147 c94.s3).1 k94 [] k94 gK = L2 (S94_27 c) 0 5 := Eq.trans (seq_t (by kernel_rfl) (TS94_0 c) (seq_t (by kernel_rfl) (TS94_26 c) rfl)) (by funext s h; kernel_rfl)
noncomputable def S94_28 (c : CF) (t0 : AV) (h : Heap) : Res := S94_27 c t0 nL h
theorem TS94_28 (c : CF) : (rk P0 c 147 c94.s2).1 k94 [] k94 gK = L1 (S94_28 c) 0 := Eq.trans (seq_t (by kernel_rfl) (TS94_27 c) rfl) (by funext s h; kernel_rfl)
noncomputable def S94_29 (c : CF) (t0 : AV) (h : Heap) : Res := opt (lenStr t0) fun t14 => opt (fastBin .gtr t14 (iL 8192)) fun t15 => test t15 (some ((.tup [nL,(iL 3),(iL 0)]),h)) (S94_28 c t0 h)
theorem TS94_29 (c : CF) : (rk P0 c 147 c94.snd).1 k94 [] k94 gK = L1 (S94_29 c) 0 := Eq.trans (seq_t (by kernel_rfl) (TS94_28 c) rfl) (by funext s h; kernel_rfl)
noncomputable def F94 (c : CF) (a0 : AV) (h : Heap) : Res := S94_29 c a0 h
theorem TF94 (c : CF) (a0 : AV) (h : Heap) : (rk P0 c 147 c94).1 k94 [] k94 gK (argsTr gl 0 [a0]) h = F94 c a0 h := Eq.trans (congrFun (congrFun (seq_t (by kernel_rfl) (TS94_29 c) rfl) _) _) (by kernel_rfl)
noncomputable def N94 : FnF := n1 F94
theorem N94_ok : FnOk P0 gl 94 N94 := n1_ok namesOk mixedOrders lowOk Tryz.func94 (by kernel_rfl) (by kernel_rfl) (by kernel_rfl) TF94
noncomputable def c95 : Code := codeOf Tryz.f95
noncomputable def k95 : Kt := finK P0 Tryz.f95.results.toList
noncomputable def S95_0 (c : CF) (t2 t4 t5 : AV) (h : Heap) : Res := opt (loadX (some 4) t4 h) fun t47 => opt (fastBin .add t5 (iL 1)) fun t49 => optH (storeX 4 t2 t47 h) fun h1 => opt (loadX (some 4) t2 h1) fun res => some ((.tup [res,t49]),h1)
theorem TS95_0 (c : CF) : (rk P0 c 50 c95.s5).1 k95 [] k95 gK = L3 (S95_0 c) 2 4 5 := by funext s h; kernel_rfl
noncomputable def S95_2b (c : CF) (r1 : A4) (t0 t2 t4 t5 : AV) (h : Heap) : Res := opt (indexAddrS 3 t0 t5 h) fun t27 => opt (fieldAddrX 0 t27) fun t28 => opt (loadX none t28 h) fun t29 => opt (fastBin .neq t29 (iL 2)) fun t30 => test t30 (opt (cutZ 3 t0 (some t5) none none h) fun t34 => opt2 (c 95 [t34] h) fun t35 h1 => opt (extractX t35 0) fun t36 => opt (extractX t35 1) fun t37 => opt2 (box (.agg [(iL 0),(iL 0),eL,nL]) h1) fun t6 h2 => optH (storeX 4 t6 t36 h2) fun h3 => opt (fieldAddrX 3 t4) fun t38 => opt (loadX none t38 h3) fun t39 => opt (loadX (some 4) t6 h3) fun t40 => opt2 (bsliceX 4 (.agg [(iL 0),(iL 0),eL,nL]) 1 [(0,t40)] h3) fun t41 h4 => opt2 (appendX 4 56 t39 t41 h4) fun t42 h5 => opt (fieldAddrX 3 t4) fun t43 => optH (storeX 1 t43 t42 h5) fun h6 => opt (fastBin .add t5 t37) fun t46 => r1 t0 t2 t4 t46 h6) (S95_0 c t2 t4 t5 h)
theorem TS95_2b (c : CF) (r1 : A4) : (rk P0 c 50 c95.s4.fst.bd.bd).1 (L4 r1 0 2 4 5) [(0,(L3 (S95_0 c) 2 4 5))] k95 gK = L4 (S95_2b c r1) 0 2 4 5 := by funext s h; kernel_rfl
noncomputable def S95_1l (c : CF) : Nat → A4
  | 0 => fun _ _ _ _ _ => none
  | k + 1 => S95_2b c (S95_1l c k)
theorem TS95_1l (c : CF) : (rk P0 c 50 c95.s4.fst.bd).1 (L3 (S95_0 c) 2 4 5) [(0,(L3 (S95_0 c) 2 4 5))] k95 gK = L4 (S95_1l c rounds) 0 2 4 5 := loop_t (by kernel_rfl) (loop_ind (A := fun m => L4 (S95_1l c m) 0 2 4 5) rfl (fun m => TS95_2b c (S95_1l c m)) rounds)
noncomputable def S95_3 (c : CF) (t0 t2 t4 t5 : AV) (h : Heap) : Res := S95_1l c rounds t0 t2 t4 t5 h
theorem TS95_3 (c : CF) : (rk P0 c 50 c95.s4).1 k95 [] k95 gK = L4 (S95_3 c) 0 2 4 5 := Eq.trans (seq_t (by kernel_rfl) (TS95_0 c) (block_t (id := 0) (by kernel_rfl) (TS95_1l c))) (by funext s h; kernel_rfl)
noncomputable def S95_4 (c : CF) (t0 t2 t4 : AV) (h : Heap) : Res := S95_3 c t0 t2 t4 (iL 1) h
theorem TS95_4 (c : CF) : (rk P0 c 50 c95.s3).1 k95 [] k95 gK = L3 (S95_4 c) 0 2 4 := Eq.trans (seq_t (by kernel_rfl) (TS95_3 c) rfl) (by funext s h; kernel_rfl)
noncomputable def S95_5 (c : CF) (t0 t2 t4 : AV) (h : Heap) : Res := opt (fieldAddrX 0 t4) fun t21 => opt (loadX none t21 h) fun t22 => opt (fastBin .neq t22 (iL 1)) fun t23 => test t23 (opt (loadX (some 4) t4 h) fun t24 => optH (storeX 4 t2 t24 h) fun h1 => opt (loadX (some 4) t2 h1) fun res => some ((.tup [res,(iL 1)]),h1)) (S95_4 c t0 t2 t4 h)
theorem TS95_5 (c : CF) : (rk P0 c 50 c95.s2).1 k95 [] k95 gK = L3 (S95_5 c) 0 2 4 := Eq.trans (seq_t (by kernel_rfl) (TS95_4 c) rfl) (by funext s h; kernel_rfl)
noncomputable def S95_6 (c : CF) (t0 t2 : AV) (h : Heap) : Res := opt (indexAddrS 3 t0 (iL 0) h) fun t9 => eqH h h (opt (fieldAddrX 0 t9) fun t10 => opt (loadX none t10 h) fun t11 => eqH h h (opt (indexAddrS 3 t0 (iL 0) h) fun t13 => eqH h h (opt (fieldAddrX 1 t13) fun t14 => opt (loadX none t14 h) fun t15 => eqH h h (opt (indexAddrS 3 t0 (iL 0) h) fun t17 => eqH h h (opt (fieldAddrX 2 t17) fun t18 => opt (loadX none t18 h) fun t19 => eqH h h (opt (buildX [(iL 0),(iL 0),eL,nL] [(0,1),(1,1),(2,1),(3,1)] [(0,t11),(1,t15),(2,t19)]) fun t20 => opt2 (box (.agg [(iL 0),(iL 0),eL,nL]) h) fun t4 h1 => opt (loadX none t18 h1) fun t19_1 => eqK t19_1 t19 (eqH h1 h1 (opt (indexAddrS 3 t0 (iL 0) h1) fun t17_1 => eqK t17_1 t17 (eqH h1 h1 (opt (loadX none t14 h1) fun t15_1 => eqK t15_1 t15 (eqH h1 h1 (opt (indexAddrS 3 t0 (iL 0) h1) fun t13_1 => eqK t13_1 t13 (eqH h1 h1 (opt (loadX none t10 h1) fun t11_1 => eqK t11_1 t11 (eqH h1 h1 (opt (indexAddrS 3 t0 (iL 0) h1) fun t9_1 => eqK t9_1 t9 (eqH h1 h1 (optH (storeX 4 t4 t20 h1) fun h2 => S95_5 c t0 t2 t4 h2))))))))))))))))))
theorem TS95_6 (c : CF) : (rk P0 c 50 c95.snd).1 k95 [] k95 gK = L2 (S95_6 c) 0 2 := Eq.trans (seq_t (by kernel_rfl) (TS95_5 c) rfl) (by funext s h; kernel_rfl)
noncomputable def F95 (c : CF) (a0 : AV) (h : Heap) : Res := opt2 (box (.agg [(iL 0),(iL 0),eL,nL]) h) fun t2 h1 => S95_6 c a0 t2 h1
theorem TF95 (c : CF) (a0 : AV) (h : Heap) : (rk P0 c 50 c95).1 k95 [] k95 gK (argsTr gl 0 [a0]) h = F95 c a0 h := Eq.trans (congrFun (congrFun (seq_t (by kernel_rfl) (TS95_6 c) rfl) _) _) (by kernel_rfl)
noncomputable def N95 : FnF := n1 F95
theorem N95_ok : FnOk P0 gl 95 N95 := n1_ok namesOk mixedOrders lowOk Tryz.func95 (by kernel_rfl) (by kernel_rfl) (by kernel_rfl) TF95
noncomputable def c96 : Code := codeOf Tryz.f96
noncomputable def k96 : Kt := finK P0 Tryz.f96.results.toList
noncomputable def S96_0 (c : CF) (t0 : AV) (h : Heap) : Res := opt (lenStr t0) fun t46 => opt (fastBin .geq t46 (iL 1)) fun t47 => test t47 (opt (lenStr t0) fun t50 => opt (fastBin .leq t50 (iL 24)) fun t51 => some (t51,h)) (some (fL,h))
theorem TS96_0 (c : CF) : (rk P0 c 53 c96.s2).1 k96 [] k96 gK = L1 (S96_0 c) 0 := by funext s h; kernel_rfl
noncomputable def S96_2 (c : CF) (r1 : A2) (t0 t3 : AV) (h : Heap) : Res := opt (fastBin .add t3 (iL 1)) fun t10 => r1 t0 t10 h
theorem TS96_2 (c : CF) (r1 : A2) : (rk P0 c 53 c96.snd.fst.snd.bd.bd.s2).1 (L2 r1 0 3) [(0,(L1 (S96_0 c) 0))] k96 gK = L2 (S96_2 c r1) 0 3 := by funext s h; kernel_rfl
noncomputable def S96_3 (c : CF) (r1 : A2) (t0 t3 : AV) (h : Heap) : Res := opt (fastIndex t0 t3) fun t13 => opt (fastBin .geq t13 (uL 97)) fun t15 => test t15 (opt (fastBin .leq t13 (uL 122)) fun t18 => test t18 (opt (notX tL) fun t44 => test t44 (some (fL,h)) (S96_2 c r1 t0 t3 h)) (opt (fastBin .geq t13 (uL 65)) fun t22 => test t22 (opt (fastBin .leq t13 (uL 90)) fun t25 => test t25 (opt (notX tL) fun t44_1 => test t44_1 (some (fL,h)) (S96_2 c r1 t0 t3 h)) (opt (fastBin .eql t13 (uL 95)) fun t30 => test t30 (opt (notX tL) fun t44_2 => test t44_2 (some (fL,h)) (S96_2 c r1 t0 t3 h)) (opt (fastBin .geq t13 (uL 48)) fun t34 => test t34 (opt (fastBin .leq t13 (uL 57)) fun t37 => test t37 (opt (fastBin .gtr t3 (iL 0)) fun t41 => opt (notX t41) fun t44_3 => test t44_3 (some (fL,h)) (S96_2 c r1 t0 t3 h)) (opt (notX fL) fun t44_4 => test t44_4 (some (fL,h)) (S96_2 c r1 t0 t3 h))) (opt (notX fL) fun t44_5 => test t44_5 (some (fL,h)) (S96_2 c r1 t0 t3 h))))) (opt (fastBin .eql t13 (uL 95)) fun t30_1 => test t30_1 (opt (notX tL) fun t44_6 => test t44_6 (some (fL,h)) (S96_2 c r1 t0 t3 h)) (opt (fastBin .geq t13 (uL 48)) fun t34_1 => test t34_1 (opt (fastBin .leq t13 (uL 57)) fun t37_1 => test t37_1 (opt (fastBin .gtr t3 (iL 0)) fun t41_1 => opt (notX t41_1) fun t44_7 => test t44_7 (some (fL,h)) (S96_2 c r1 t0 t3 h)) (opt (notX fL) fun t44_8 => test t44_8 (some (fL,h)) (S96_2 c r1 t0 t3 h))) (opt (notX fL) fun t44_9 => test t44_9 (some (fL,h)) (S96_2 c r1 t0 t3 h)))))) (opt (fastBin .geq t13 (uL 65)) fun t22_1 => test t22_1 (opt (fastBin .leq t13 (uL 90)) fun t25_1 => test t25_1 (opt (notX tL) fun t44_10 => test t44_10 (some (fL,h)) (S96_2 c r1 t0 t3 h)) (opt (fastBin .eql t13 (uL 95)) fun t30_2 => test t30_2 (opt (notX tL) fun t44_11 => test t44_11 (some (fL,h)) (S96_2 c r1 t0 t3 h)) (opt (fastBin .geq t13 (uL 48)) fun t34_2 => test t34_2 (opt (fastBin .leq t13 (uL 57)) fun t37_2 => test t37_2 (opt (fastBin .gtr t3 (iL 0)) fun t41_2 => opt (notX t41_2) fun t44_12 => test t44_12 (some (fL,h)) (S96_2 c r1 t0 t3 h)) (opt (notX fL) fun t44_13 => test t44_13 (some (fL,h)) (S96_2 c r1 t0 t3 h))) (opt (notX fL) fun t44_14 => test t44_14 (some (fL,h)) (S96_2 c r1 t0 t3 h))))) (opt (fastBin .eql t13 (uL 95)) fun t30_3 => test t30_3 (opt (notX tL) fun t44_15 => test t44_15 (some (fL,h)) (S96_2 c r1 t0 t3 h)) (opt (fastBin .geq t13 (uL 48)) fun t34_3 => test t34_3 (opt (fastBin .leq t13 (uL 57)) fun t37_3 => test t37_3 (opt (fastBin .gtr t3 (iL 0)) fun t41_3 => opt (notX t41_3) fun t44_16 => test t44_16 (some (fL,h)) (S96_2 c r1 t0 t3 h)) (opt (notX fL) fun t44_17 => test t44_17 (some (fL,h)) (S96_2 c r1 t0 t3 h))) (opt (notX fL) fun t44_18 => test t44_18 (some (fL,h)) (S96_2 c r1 t0 t3 h)))))
theorem TS96_3 (c : CF) (r1 : A2) : (rk P0 c 53 c96.snd.fst.snd.bd.bd.snd).1 (L2 r1 0 3) [(0,(L1 (S96_0 c) 0))] k96 gK = L2 (S96_3 c r1) 0 3 := Eq.trans (seq_t (by kernel_rfl) (TS96_2 c r1) rfl) (by funext s h; kernel_rfl)
noncomputable def S96_4b (c : CF) (r1 : A2) (t0 t3 : AV) (h : Heap) : Res := opt (lenStr t0) fun t7 => opt (fastBin .lss t3 t7) fun t8 => test t8 (S96_3 c r1 t0 t3 h) (S96_0 c t0 h)
theorem TS96_4b (c : CF) (r1 : A2) : (rk P0 c 53 c96.snd.fst.snd.bd.bd).1 (L2 r1 0 3) [(0,(L1 (S96_0 c) 0))] k96 gK = L2 (S96_4b c r1) 0 3 := Eq.trans (seq_t (by kernel_rfl) (TS96_3 c r1) rfl) (by funext s h; kernel_rfl)
noncomputable def S96_1l (c : CF) : Nat → A2
  | 0 => fun _ _ _ => none
  | k + 1 => S96_4b c (S96_1l c k)
theorem TS96_1l (c : CF) : (rk P0 c 53 c96.snd.fst.snd.bd).1 (L1 (S96_0 c) 0) [(0,(L1 (S96_0 c) 0))] k96 gK = L2 (S96_1l c rounds) 0 3 := loop_t (by kernel_rfl) (loop_ind (A := fun m => L2 (S96_1l c m) 0 3) rfl (fun m => TS96_4b c (S96_1l c m)) rounds)
noncomputable def S96_5 (c : CF) (t0 t3 : AV) (h : Heap) : Res := S96_1l c rounds t0 t3 h
theorem TS96_5 (c : CF) : (rk P0 c 53 c96.snd.fst.snd).1 (L1 (S96_0 c) 0) [] k96 gK = L2 (S96_5 c) 0 3 := Eq.trans (block_t (id := 0) (by kernel_rfl) (TS96_1l c)) (by funext s h; kernel_rfl)
noncomputable def S96_6 (c : CF) (t0 : AV) (h : Heap) : Res := S96_5 c t0 (iL 0) h
theorem TS96_6 (c : CF) : (rk P0 c 53 c96.snd).1 k96 [] k96 gK = L1 (S96_6 c) 0 := Eq.trans (seq_t (by kernel_rfl) (TS96_0 c) (seq_t (by kernel_rfl) (TS96_5 c) rfl)) (by funext s h; kernel_rfl)
noncomputable def F96 (c : CF) (a0 : AV) (h : Heap) : Res := S96_6 c a0 h
theorem TF96 (c : CF) (a0 : AV) (h : Heap) : (rk P0 c 53 c96).1 k96 [] k96 gK (argsTr gl 0 [a0]) h = F96 c a0 h := Eq.trans (congrFun (congrFun (seq_t (by kernel_rfl) (TS96_6 c) rfl) _) _) (by kernel_rfl)
noncomputable def N96 : FnF := n1 F96
theorem N96_ok : FnOk P0 gl 96 N96 := n1_ok namesOk mixedOrders lowOk Tryz.func96 (by kernel_rfl) (by kernel_rfl) (by kernel_rfl) TF96
noncomputable def c97 : Code := codeOf Tryz.f97
noncomputable def k97 : Kt := finK P0 Tryz.f97.results.toList
noncomputable def F97 (c : CF) (a0 : AV) (h : Heap) : Res := opt2 (c 96 [a0] h) fun t4 h1 => test t4 (opt (fastIndex a0 (iL 0)) fun t7 => opt (fastBin .geq t7 (uL 65)) fun t8 => test t8 (opt (fastIndex a0 (iL 0)) fun t12 => opt (fastBin .leq t12 (uL 90)) fun t13 => some (t13,h1)) (some (fL,h1))) (some (fL,h1))
theorem TF97 (c : CF) (a0 : AV) (h : Heap) : (rk P0 c 15 c97).1 k97 [] k97 gK (argsTr gl 0 [a0]) h = F97 c a0 h := by kernel_rfl
noncomputable def N97 : FnF := n1 F97
theorem N97_ok : FnOk P0 gl 97 N97 := n1_ok namesOk mixedOrders lowOk Tryz.func97 (by kernel_rfl) (by kernel_rfl) (by kernel_rfl) TF97
noncomputable def c100 : Code := codeOf Tryz.f100
noncomputable def k100 : Kt := finK P0 Tryz.f100.results.toList
noncomputable def S100_0 (c : CF) (t1 t8 : AV) (h : Heap) : Res := opt (nilCheckX t1) fun t166 => opt (fieldAddrX 3 t166) fun t167 => opt (loadX none t167 h) fun t168 => eqH h h (opt (loadX (some 2) t8 h) fun t169 => eqH h h (opt2 (bsliceX 2 (.agg [eL,nL]) 1 [(0,t169)] h) fun t170 h1 => opt (loadX none t167 h1) fun t168_1 => eqK t168_1 t168 (eqH h1 h1 (opt2 (appendX 2 40 t168 t170 h1) fun t171 h2 => opt (nilCheckX t1) fun t172 => opt (fieldAddrX 3 t172) fun t173 => optH (storeX 1 t173 t171 h2) fun h3 => some ((.lit (.tuple #[])),h3)))))
theorem TS100_0 (c : CF) : (rk P0 c 174 c100.s8).1 k100 [] k100 gK = L2 (S100_0 c) 1 8 := by funext s h; kernel_rfl
noncomputable def S100_2 (c : CF) (r1 : A5) (t0 t1 t5 t8 t9 : AV) (h : Heap) : Res := opt (fastBin .add t9 (iL 1)) fun t88 => r1 t0 t1 t5 t8 t88 h
theorem TS100_2 (c : CF) (r1 : A5) : (rk P0 c 174 c100.s7.fst.snd.bd.bd.s2).1 (L5 r1 0 1 5 8 9) [(2,(L2 (S100_0 c) 1 8))] k100 gK = L5 (S100_2 c r1) 0 1 5 8 9 := by funext s h; kernel_rfl
noncomputable def S100_3 (c : CF) (r1 : A5) (t0 t1 t5 t8 t9 t11 : AV) (h : Heap) : Res := opt (fieldAddrX 1 t8) fun t158 => opt (loadX none t158 h) fun t159 => opt (loadX (some 2) t11 h) fun t160 => opt2 (bsliceX 2 (.agg [eL,nL]) 1 [(0,t160)] h) fun t161 h1 => opt2 (appendX 2 40 t159 t161 h1) fun t162 h2 => opt (fieldAddrX 1 t8) fun t163 => optH (storeX 1 t163 t162 h2) fun h3 => S100_2 c r1 t0 t1 t5 t8 t9 h3
theorem TS100_3 (c : CF) (r1 : A5) : (rk P0 c 174 c100.s7.fst.snd.bd.bd.snd.fst.bd.s5).1 (L5 (S100_2 c r1) 0 1 5 8 9) [(3,(L5 (S100_2 c r1) 0 1 5 8 9)),(2,(L2 (S100_0 c) 1 8))] k100 gK = L6 (S100_3 c r1) 0 1 5 8 9 11 := by funext s h; kernel_rfl
noncomputable def S100_5 (c : CF) (r1 : A5) (r4 : A8) (t0 t1 t5 t8 t9 t10 t11 t12 : AV) (h : Heap) : Res := opt (fieldAddrX 1 t11) fun t146 => opt (loadX none t146 h) fun t147 => eqH h h (opt (fieldAddrX 3 t10) fun t149 => opt (loadX none t149 h) fun t150 => eqH h h (opt (indexAddrS 4 t150 t12 h) fun t152 => eqH h h (opt (loadX (some 4) t152 h) fun t153 => eqH h h (opt2 (c 102 [t0,t153] h) fun t154 h1 => opt (loadX none t146 h1) fun t147_1 => eqK t147_1 t147 (eqH h1 h1 (opt2 (bsliceX 1 eL 1 [(0,t154)] h1) fun t155 h2 => eqH h2 h1 (opt2 (appendX 1 16 t147 t155 h1) fun t156 h3 => opt (fieldAddrX 1 t11) fun t157 => optH (storeX 1 t157 t156 h3) fun h4 => opt (fastBin .add t12 (iL 1)) fun t145 => r4 t0 t1 t5 t8 t9 t10 t11 t145 h4)))))))
theorem TS100_5 (c : CF) (r1 : A5) (r4 : A8) : (rk P0 c 174 c100.s7.fst.snd.bd.bd.snd.fst.bd.s4.fst.snd.bd.bd.snd).1 (L8 r4 0 1 5 8 9 10 11 12) [(4,(L6 (S100_3 c r1) 0 1 5 8 9 11)),(3,(L5 (S100_2 c r1) 0 1 5 8 9)),(2,(L2 (S100_0 c) 1 8))] k100 gK = L8 (S100_5 c r1 r4) 0 1 5 8 9 10 11 12 := by funext s h; kernel_rfl
noncomputable def S100_6b (c : CF) (r1 : A5) (r4 : A8) (t0 t1 t5 t8 t9 t10 t11 t12 : AV) (h : Heap) : Res := opt (fieldAddrX 3 t10) fun t133 => opt (loadX none t133 h) fun t134 => opt (lenS t134) fun t135 => opt (fastBin .lss t12 t135) fun t136 => test t136 (opt (nilCheckX t0) fun t139 => opt (fieldAddrX 1 t139) fun t140 => opt (loadX none t140 h) fun t141 => opt (fastBin .eql t141 (iL 0)) fun t142 => test t142 (S100_5 c r1 r4 t0 t1 t5 t8 t9 t10 t11 t12 h) (S100_3 c r1 t0 t1 t5 t8 t9 t11 h)) (S100_3 c r1 t0 t1 t5 t8 t9 t11 h)
theorem TS100_6b (c : CF) (r1 : A5) (r4 : A8) : (rk P0 c 174 c100.s7.fst.snd.bd.bd.snd.fst.bd.s4.fst.snd.bd.bd).1 (L8 r4 0 1 5 8 9 10 11 12) [(4,(L6 (S100_3 c r1) 0 1 5 8 9 11)),(3,(L5 (S100_2 c r1) 0 1 5 8 9)),(2,(L2 (S100_0 c) 1 8))] k100 gK = L8 (S100_6b c r1 r4) 0 1 5 8 9 10 11 12 := Eq.trans (seq_t (by kernel_rfl) (TS100_5 c r1 r4) rfl) (by funext s h; kernel_rfl)
noncomputable def S100_4l (c : CF) (r1 : A5) : Nat → A8
  | 0 => fun _ _ _ _ _ _ _ _ _ => none
  | k + 1 => S100_6b c r1 (S100_4l c r1 k)
theorem TS100_4l (c : CF) (r1 : A5) : (rk P0 c 174 c100.s7.fst.snd.bd.bd.snd.fst.bd.s4.fst.snd.bd).1 (L6 (S100_3 c r1) 0 1 5 8 9 11) [(4,(L6 (S100_3 c r1) 0 1 5 8 9 11)),(3,(L5 (S100_2 c r1) 0 1 5 8 9)),(2,(L2 (S100_0 c) 1 8))] k100 gK = L8 (S100_4l c r1 rounds) 0 1 5 8 9 10 11 12 := loop_t (by kernel_rfl) (loop_ind (A := fun m => L8 (S100_4l c r1 m) 0 1 5 8 9 10 11 12) rfl (fun m => TS100_6b c r1 (S100_4l c r1 m)) rounds)
noncomputable def S100_7 (c : CF) (r1 : A5) (t0 t1 t5 t8 t9 t10 t11 t12 : AV) (h : Heap) : Res := S100_4l c r1 rounds t0 t1 t5 t8 t9 t10 t11 t12 h
theorem TS100_7 (c : CF) (r1 : A5) : (rk P0 c 174 c100.s7.fst.snd.bd.bd.snd.fst.bd.s4.fst.snd).1 (L6 (S100_3 c r1) 0 1 5 8 9 11) [(3,(L5 (S100_2 c r1) 0 1 5 8 9)),(2,(L2 (S100_0 c) 1 8))] k100 gK = L8 (S100_7 c r1) 0 1 5 8 9 10 11 12 := Eq.trans (block_t (id := 4) (by kernel_rfl) (TS100_4l c r1)) (by funext s h; kernel_rfl)
noncomputable def S100_8 (c : CF) (r1 : A5) (t0 t1 t5 t8 t9 t10 t11 : AV) (h : Heap) : Res := S100_7 c r1 t0 t1 t5 t8 t9 t10 t11 (iL 1) h
theorem TS100_8 (c : CF) (r1 : A5) : (rk P0 c 174 c100.s7.fst.snd.bd.bd.snd.fst.bd.s4).1 (L5 (S100_2 c r1) 0 1 5 8 9) [(3,(L5 (S100_2 c r1) 0 1 5 8 9)),(2,(L2 (S100_0 c) 1 8))] k100 gK = L7 (S100_8 c r1) 0 1 5 8 9 10 11 := Eq.trans (seq_t (by kernel_rfl) (TS100_3 c r1) (seq_t (by kernel_rfl) (TS100_7 c r1) rfl)) (by funext s h; kernel_rfl)
noncomputable def S100_9 (c : CF) (r1 : A5) (t0 t1 t5 t8 t9 t10 t11 : AV) (h : Heap) : Res := opt (fieldAddrX 0 t11) fun t121 => opt (loadX none t121 h) fun t122 => opt2 (c 97 [t122] h) fun t123 h1 => opt (notX t123) fun t124 => test t124 (opt (fieldAddrX 3 t10) fun t126 => opt (loadX none t126 h1) fun t127 => opt (indexAddrS 4 t127 (iL 0) h1) fun t128 => opt (fieldAddrX 1 t128) fun t129 => opt (loadX none t129 h1) fun t130 => opt2 (c 47 [t0,(iL 13),t130] h1) fun t131 h2 => S100_8 c r1 t0 t1 t5 t8 t9 t10 t11 h2) (S100_8 c r1 t0 t1 t5 t8 t9 t10 t11 h1)
theorem TS100_9 (c : CF) (r1 : A5) : (rk P0 c 174 c100.s7.fst.snd.bd.bd.snd.fst.bd.s3).1 (L5 (S100_2 c r1) 0 1 5 8 9) [(3,(L5 (S100_2 c r1) 0 1 5 8 9)),(2,(L2 (S100_0 c) 1 8))] k100 gK = L7 (S100_9 c r1) 0 1 5 8 9 10 11 := Eq.trans (seq_t (by kernel_rfl) (TS100_8 c r1) rfl) (by funext s h; kernel_rfl)
noncomputable def S100_10 (c : CF) (r1 : A5) (t0 t1 t5 t8 t9 t10 : AV) (h : Heap) : Res := opt (fieldAddrX 3 t10) fun t115 => opt (loadX none t115 h) fun t116 => opt (indexAddrS 4 t116 (iL 0) h) fun t117 => opt (fieldAddrX 2 t117) fun t118 => opt (loadX none t118 h) fun t119 => opt (buildX [eL,nL] [(0,1),(1,1)] [(0,t119)]) fun t120 => opt2 (box (.agg [eL,nL]) h) fun t11 h1 => optH (storeX 2 t11 t120 h1) fun h2 => S100_9 c r1 t0 t1 t5 t8 t9 t10 t11 h2
theorem TS100_10 (c : CF) (r1 : A5) : (rk P0 c 174 c100.s7.fst.snd.bd.bd.snd.fst.bd.s2).1 (L5 (S100_2 c r1) 0 1 5 8 9) [(3,(L5 (S100_2 c r1) 0 1 5 8 9)),(2,(L2 (S100_0 c) 1 8))] k100 gK = L6 (S100_10 c r1) 0 1 5 8 9 10 := Eq.trans (seq_t (by kernel_rfl) (TS100_9 c r1) rfl) (by funext s h; kernel_rfl)
noncomputable def S100_11 (c : CF) (r1 : A5) (t0 t1 t5 t8 t9 t10 t110 : AV) (h : Heap) : Res := test t110 (opt (fieldAddrX 1 t10) fun t112 => opt (loadX none t112 h) fun t113 => opt2 (c 47 [t0,(iL 12),t113] h) fun t114 h1 => some ((.lit (.tuple #[])),h1)) (S100_10 c r1 t0 t1 t5 t8 t9 t10 h)
theorem TS100_11 (c : CF) (r1 : A5) : (rk P0 c 174 c100.s7.fst.snd.bd.bd.snd.fst.bd.snd.fst.snd).1 (L6 (S100_10 c r1) 0 1 5 8 9 10) [(3,(L5 (S100_2 c r1) 0 1 5 8 9)),(2,(L2 (S100_0 c) 1 8))] k100 gK = L7 (S100_11 c r1) 0 1 5 8 9 10 110 := by funext s h; kernel_rfl
noncomputable def S100_12 (c : CF) (r1 : A5) (t0 t1 t5 t8 t9 t10 : AV) (h : Heap) : Res := opt (loadX (some 4) t10 h) fun t94 => opt2 (c 44 [t94] h) fun t95 h1 => opt (notX t95) fun t96 => test t96 (S100_11 c r1 t0 t1 t5 t8 t9 t10 tL h1) (opt (fieldAddrX 3 t10) fun t98 => opt (loadX none t98 h1) fun t99 => opt (lenS t99) fun t100 => opt (fastBin .eql t100 (iL 0)) fun t101 => test t101 (S100_11 c r1 t0 t1 t5 t8 t9 t10 tL h1) (opt (fieldAddrX 3 t10) fun t104 => opt (loadX none t104 h1) fun t105 => opt (indexAddrS 4 t105 (iL 0) h1) fun t106 => opt (loadX (some 4) t106 h1) fun t107 => opt2 (c 45 [t107] h1) fun t108 h2 => opt (notX t108) fun t109 => S100_11 c r1 t0 t1 t5 t8 t9 t10 t109 h2))
theorem TS100_12 (c : CF) (r1 : A5) : (rk P0 c 174 c100.s7.fst.snd.bd.bd.snd.fst.bd.snd).1 (L5 (S100_2 c r1) 0 1 5 8 9) [(3,(L5 (S100_2 c r1) 0 1 5 8 9)),(2,(L2 (S100_0 c) 1 8))] k100 gK = L6 (S100_12 c r1) 0 1 5 8 9 10 := Eq.trans (seq_t (by kernel_rfl) (TS100_10 c r1) (seq_t (by kernel_rfl) (TS100_11 c r1) rfl)) (by funext s h; kernel_rfl)
noncomputable def S100_13 (c : CF) (r1 : A5) (t0 t1 t5 t8 t9 : AV) (h : Heap) : Res := opt (fieldAddrX 3 t5) fun t89 => opt (loadX none t89 h) fun t90 => opt (indexAddrS 4 t90 t9 h) fun t92 => opt (loadX (some 4) t92 h) fun t93 => opt2 (box (.agg [(iL 0),(iL 0),eL,nL]) h) fun t10 h1 => optH (storeX 4 t10 t93 h1) fun h2 => S100_12 c r1 t0 t1 t5 t8 t9 t10 h2
theorem TS100_13 (c : CF) (r1 : A5) : (rk P0 c 174 c100.s7.fst.snd.bd.bd.snd).1 (L5 r1 0 1 5 8 9) [(2,(L2 (S100_0 c) 1 8))] k100 gK = L5 (S100_13 c r1) 0 1 5 8 9 := Eq.trans (seq_t (by kernel_rfl) (TS100_2 c r1) (block_t (id := 3) (by kernel_rfl) (seq_t (by kernel_rfl) (TS100_12 c r1) rfl))) (by funext s h; kernel_rfl)
noncomputable def S100_14b (c : CF) (r1 : A5) (t0 t1 t5 t8 t9 : AV) (h : Heap) : Res := opt (fieldAddrX 3 t5) fun t76 => opt (loadX none t76 h) fun t77 => opt (lenS t77) fun t78 => opt (fastBin .lss t9 t78) fun t79 => test t79 (opt (nilCheckX t0) fun t82 => opt (fieldAddrX 1 t82) fun t83 => opt (loadX none t83 h) fun t84 => opt (fastBin .eql t84 (iL 0)) fun t85 => test t85 (S100_13 c r1 t0 t1 t5 t8 t9 h) (S100_0 c t1 t8 h)) (S100_0 c t1 t8 h)
theorem TS100_14b (c : CF) (r1 : A5) : (rk P0 c 174 c100.s7.fst.snd.bd.bd).1 (L5 r1 0 1 5 8 9) [(2,(L2 (S100_0 c) 1 8))] k100 gK = L5 (S100_14b c r1) 0 1 5 8 9 := Eq.trans (seq_t (by kernel_rfl) (TS100_13 c r1) rfl) (by funext s h; kernel_rfl)
noncomputable def S100_1l (c : CF) : Nat → A5
  | 0 => fun _ _ _ _ _ _ => none
  | k + 1 => S100_14b c (S100_1l c k)
theorem TS100_1l (c : CF) : (rk P0 c 174 c100.s7.fst.snd.bd).1 (L2 (S100_0 c) 1 8) [(2,(L2 (S100_0 c) 1 8))] k100 gK = L5 (S100_1l c rounds) 0 1 5 8 9 := loop_t (by kernel_rfl) (loop_ind (A := fun m => L5 (S100_1l c m) 0 1 5 8 9) rfl (fun m => TS100_14b c (S100_1l c m)) rounds)
noncomputable def S100_15 (c : CF) (t0 t1 t5 t8 t9 : AV) (h : Heap) : Res := S100_1l c rounds t0 t1 t5 t8 t9 h
theorem TS100_15 (c : CF) : (rk P0 c 174 c100.s7.fst.snd).1 (L2 (S100_0 c) 1 8) [] k100 gK = L5 (S100_15 c) 0 1 5 8 9 := Eq.trans (block_t (id := 2) (by kernel_rfl) (TS100_1l c)) (by funext s h; kernel_rfl)
noncomputable def S100_16 (c : CF) (t0 t1 t5 t8 : AV) (h : Heap) : Res := S100_15 c t0 t1 t5 t8 (iL 2) h
theorem TS100_16 (c : CF) : (rk P0 c 174 c100.s7).1 k100 [] k100 gK = L4 (S100_16 c) 0 1 5 8 := Eq.trans (seq_t (by kernel_rfl) (TS100_0 c) (seq_t (by kernel_rfl) (TS100_15 c) rfl)) (by funext s h; kernel_rfl)
noncomputable def S100_17 (c : CF) (t0 t1 t5 t8 : AV) (h : Heap) : Res := opt (fieldAddrX 0 t8) fun t64 => opt (loadX none t64 h) fun t65 => opt2 (c 97 [t65] h) fun t66 h1 => opt (notX t66) fun t67 => test t67 (opt (fieldAddrX 3 t5) fun t69 => opt (loadX none t69 h1) fun t70 => opt (indexAddrS 4 t70 (iL 1) h1) fun t71 => opt (fieldAddrX 1 t71) fun t72 => opt (loadX none t72 h1) fun t73 => opt2 (c 47 [t0,(iL 13),t73] h1) fun t74 h2 => S100_16 c t0 t1 t5 t8 h2) (S100_16 c t0 t1 t5 t8 h1)
theorem TS100_17 (c : CF) : (rk P0 c 174 c100.s6).1 k100 [] k100 gK = L4 (S100_17 c) 0 1 5 8 := Eq.trans (seq_t (by kernel_rfl) (TS100_16 c) rfl) (by funext s h; kernel_rfl)
noncomputable def S100_18 (c : CF) (t0 t1 t5 : AV) (h : Heap) : Res := opt (fieldAddrX 3 t5) fun t58 => opt (loadX none t58 h) fun t59 => opt (indexAddrS 4 t59 (iL 1) h) fun t60 => opt (fieldAddrX 2 t60) fun t61 => opt (loadX none t61 h) fun t62 => opt (buildX [eL,nL] [(0,1),(1,1)] [(0,t62)]) fun t63 => opt2 (box (.agg [eL,nL]) h) fun t8 h1 => optH (storeX 2 t8 t63 h1) fun h2 => S100_17 c t0 t1 t5 t8 h2
theorem TS100_18 (c : CF) : (rk P0 c 174 c100.s5).1 k100 [] k100 gK = L3 (S100_18 c) 0 1 5 := Eq.trans (seq_t (by kernel_rfl) (TS100_17 c) rfl) (by funext s h; kernel_rfl)
noncomputable def S100_19 (c : CF) (t0 t1 t5 t6 : AV) (h : Heap) : Res := test t6 (opt (fieldAddrX 1 t5) fun t55 => opt (loadX none t55 h) fun t56 => opt2 (c 47 [t0,(iL 19),t56] h) fun t57 h1 => S100_18 c t0 t1 t5 h1) (S100_18 c t0 t1 t5 h)
theorem TS100_19 (c : CF) : (rk P0 c 174 c100.s4).1 k100 [] k100 gK = L4 (S100_19 c) 0 1 5 6 := Eq.trans (seq_t (by kernel_rfl) (TS100_18 c) rfl) (by funext s h; kernel_rfl)
noncomputable def S100_21 (c : CF) (r20 : A5) (t0 t1 t5 t6 t7 : AV) (h : Heap) : Res := opt (fastBin .add t7 (iL 1)) fun t40 => r20 t0 t1 t5 t6 t40 h
theorem TS100_21 (c : CF) (r20 : A5) : (rk P0 c 174 c100.s3.fst.snd.bd.bd.s2).1 (L5 r20 0 1 5 6 7) [(0,(L4 (S100_19 c) 0 1 5 6))] k100 gK = L5 (S100_21 c r20) 0 1 5 6 7 := by funext s h; kernel_rfl
noncomputable def S100_22 (c : CF) (r20 : A5) (t0 t1 t5 t6 t7 : AV) (h : Heap) : Res := test t6 (S100_21 c r20 t0 t1 t5 tL t7 h) (opt (fieldAddrX 3 t5) fun t43 => opt (loadX none t43 h) fun t44 => opt (indexAddrS 4 t44 t7 h) fun t46 => opt (fieldAddrX 3 t46) fun t47 => opt (loadX none t47 h) fun t48 => opt (lenS t48) fun t49 => opt (fastBin .sub t49 (iL 1)) fun t50 => opt (fastBin .gtr t50 (iL 4)) fun t51 => S100_21 c r20 t0 t1 t5 t51 t7 h)
theorem TS100_22 (c : CF) (r20 : A5) : (rk P0 c 174 c100.s3.fst.snd.bd.bd.snd).1 (L5 r20 0 1 5 6 7) [(0,(L4 (S100_19 c) 0 1 5 6))] k100 gK = L5 (S100_22 c r20) 0 1 5 6 7 := Eq.trans (seq_t (by kernel_rfl) (TS100_21 c r20) rfl) (by funext s h; kernel_rfl)
noncomputable def S100_23b (c : CF) (r20 : A5) (t0 t1 t5 t6 t7 : AV) (h : Heap) : Res := opt (fieldAddrX 3 t5) fun t35 => opt (loadX none t35 h) fun t36 => opt (lenS t36) fun t37 => opt (fastBin .lss t7 t37) fun t38 => test t38 (S100_22 c r20 t0 t1 t5 t6 t7 h) (S100_19 c t0 t1 t5 t6 h)
theorem TS100_23b (c : CF) (r20 : A5) : (rk P0 c 174 c100.s3.fst.snd.bd.bd).1 (L5 r20 0 1 5 6 7) [(0,(L4 (S100_19 c) 0 1 5 6))] k100 gK = L5 (S100_23b c r20) 0 1 5 6 7 := Eq.trans (seq_t (by kernel_rfl) (TS100_22 c r20) rfl) (by funext s h; kernel_rfl)
noncomputable def S100_20l (c : CF) : Nat → A5
  | 0 => fun _ _ _ _ _ _ => none
  | k + 1 => S100_23b c (S100_20l c k)
theorem TS100_20l (c : CF) : (rk P0 c 174 c100.s3.fst.snd.bd).1 (L4 (S100_19 c) 0 1 5 6) [(0,(L4 (S100_19 c) 0 1 5 6))] k100 gK = L5 (S100_20l c rounds) 0 1 5 6 7 := loop_t (by kernel_rfl) (loop_ind (A := fun m => L5 (S100_20l c m) 0 1 5 6 7) rfl (fun m => TS100_23b c (S100_20l c m)) rounds)
noncomputable def S100_24 (c : CF) (t0 t1 t5 t6 t7 : AV) (h : Heap) : Res := S100_20l c rounds t0 t1 t5 t6 t7 h
theorem TS100_24 (c : CF) : (rk P0 c 174 c100.s3.fst.snd).1 (L4 (S100_19 c) 0 1 5 6) [] k100 gK = L5 (S100_24 c) 0 1 5 6 7 := Eq.trans (block_t (id := 0) (by kernel_rfl) (TS100_20l c)) (by funext s h; kernel_rfl)
noncomputable def S100_25 (c : CF) (t0 t1 t5 t6 : AV) (h : Heap) : Res := S100_24 c t0 t1 t5 t6 (iL 2) h
theorem TS100_25 (c : CF) : (rk P0 c 174 c100.s3).1 k100 [] k100 gK = L4 (S100_25 c) 0 1 5 6 := Eq.trans (seq_t (by kernel_rfl) (TS100_19 c) (seq_t (by kernel_rfl) (TS100_24 c) rfl)) (by funext s h; kernel_rfl)
noncomputable def S100_26 (c : CF) (t0 t1 t5 : AV) (h : Heap) : Res := opt (fieldAddrX 3 t5) fun t29 => opt (loadX none t29 h) fun t30 => opt (lenS t30) fun t31 => opt (fastBin .sub t31 (iL 2)) fun t32 => opt (fastBin .gtr t32 (iL 6)) fun t33 => S100_25 c t0 t1 t5 t33 h
theorem TS100_26 (c : CF) : (rk P0 c 174 c100.s2).1 k100 [] k100 gK = L3 (S100_26 c) 0 1 5 := Eq.trans (seq_t (by kernel_rfl) (TS100_25 c) rfl) (by funext s h; kernel_rfl)
noncomputable def S100_27 (c : CF) (t0 t1 t5 t24 : AV) (h : Heap) : Res := test t24 (opt (fieldAddrX 1 t5) fun t26 => opt (loadX none t26 h) fun t27 => opt2 (c 47 [t0,(iL 12),t27] h) fun t28 h1 => some ((.lit (.tuple #[])),h1)) (S100_26 c t0 t1 t5 h)
theorem TS100_27 (c : CF) : (rk P0 c 174 c100.snd.fst.snd).1 (L3 (S100_26 c) 0 1 5) [] k100 gK = L4 (S100_27 c) 0 1 5 24 := by funext s h; kernel_rfl
noncomputable def S100_28 (c : CF) (t0 t1 t5 : AV) (h : Heap) : Res := opt (fieldAddrX 3 t5) fun t13 => opt (loadX none t13 h) fun t14 => opt (lenS t14) fun t15 => opt (fastBin .lss t15 (iL 3)) fun t16 => test t16 (S100_27 c t0 t1 t5 tL h) (opt (fieldAddrX 3 t5) fun t18 => opt (loadX none t18 h) fun t19 => opt (indexAddrS 4 t19 (iL 1) h) fun t20 => opt (loadX (some 4) t20 h) fun t21 => opt2 (c 45 [t21] h) fun t22 h1 => opt (notX t22) fun t23 => S100_27 c t0 t1 t5 t23 h1)
theorem TS100_28 (c : CF) : (rk P0 c 174 c100.snd).1 k100 [] k100 gK = L3 (S100_28 c) 0 1 5 := Eq.trans (seq_t (by kernel_rfl) (TS100_26 c) (seq_t (by kernel_rfl) (TS100_27 c) rfl)) (by funext s h; kernel_rfl)
noncomputable def F100 (c : CF) (a0 a1 a2 : AV) (h : Heap) : Res := opt2 (box a2 h) fun t5 h1 => S100_28 c a0 a1 t5 h1
theorem TF100 (c : CF) (a0 a1 a2 : AV) (h : Heap) : (rk P0 c 174 c100).1 k100 [] k100 gK (argsTr gl 0 [a0,a1,a2]) h = F100 c a0 a1 a2 h := Eq.trans (congrFun (congrFun (seq_t (by kernel_rfl) (TS100_28 c) rfl) _) _) (by kernel_rfl)
noncomputable def N100 : FnF := n3 F100
theorem N100_ok : FnOk P0 gl 100 N100 := n3_ok namesOk mixedOrders lowOk Tryz.func100 (by kernel_rfl) (by kernel_rfl) (by kernel_rfl) TF100
noncomputable def c101 : Code := codeOf Tryz.f101
noncomputable def k101 : Kt := finK P0 Tryz.f101.results.toList
noncomputable def S101_0 (c : CF) (t3 : AV) (h : Heap) : Res := opt (fieldAddrX 2 t3) fun t18 => opt (loadX none t18 h) fun t19 => some (t19,h)
theorem TS101_0 (c : CF) : (rk P0 c 20 c101.s2).1 k101 [] k101 gK = L1 (S101_0 c) 3 := by funext s h; kernel_rfl
noncomputable def S101_1 (c : CF) (t0 t3 t13 : AV) (h : Heap) : Res := test t13 (opt (fieldAddrX 1 t3) fun t15 => opt (loadX none t15 h) fun t16 => opt2 (c 47 [t0,(iL 13),t16] h) fun t17 h1 => S101_0 c t3 h1) (S101_0 c t3 h)
theorem TS101_1 (c : CF) : (rk P0 c 20 c101.snd.fst.snd).1 (L1 (S101_0 c) 3) [] k101 gK = L3 (S101_1 c) 0 3 13 := by funext s h; kernel_rfl
noncomputable def S101_2 (c : CF) (t0 t3 : AV) (h : Heap) : Res := opt (fieldAddrX 2 t3) fun t5 => opt (loadX none t5 h) fun t6 => opt2 (c 46 [t6] h) fun t7 h1 => opt (notX t7) fun t8 => test t8 (S101_1 c t0 t3 tL h1) (opt (fieldAddrX 2 t3) fun t10 => opt (loadX none t10 h1) fun t11 => opt2 (c 152 [t11] h1) fun t12 h2 => S101_1 c t0 t3 t12 h2)
theorem TS101_2 (c : CF) : (rk P0 c 20 c101.snd).1 k101 [] k101 gK = L2 (S101_2 c) 0 3 := Eq.trans (seq_t (by kernel_rfl) (TS101_0 c) (seq_t (by kernel_rfl) (TS101_1 c) rfl)) (by funext s h; kernel_rfl)
noncomputable def F101 (c : CF) (a0 a1 : AV) (h : Heap) : Res := opt2 (box a1 h) fun t3 h1 => S101_2 c a0 t3 h1
theorem TF101 (c : CF) (a0 a1 : AV) (h : Heap) : (rk P0 c 20 c101).1 k101 [] k101 gK (argsTr gl 0 [a0,a1]) h = F101 c a0 a1 h := Eq.trans (congrFun (congrFun (seq_t (by kernel_rfl) (TS101_2 c) rfl) _) _) (by kernel_rfl)
noncomputable def N101 : FnF := n2 F101
theorem N101_ok : FnOk P0 gl 101 N101 := n2_ok namesOk mixedOrders lowOk Tryz.func101 (by kernel_rfl) (by kernel_rfl) (by kernel_rfl) TF101
noncomputable def c102 : Code := codeOf Tryz.f102
noncomputable def k102 : Kt := finK P0 Tryz.f102.results.toList
noncomputable def F102 (c : CF) (a0 a1 : AV) (h : Heap) : Res := opt2 (box a1 h) fun t3 h1 => opt (nilCheckX a0) fun t9 => opt (fieldAddrX 1 t9) fun t10 => opt (loadX none t10 h1) fun t11 => opt (fastBin .neq t11 (iL 0)) fun t12 => test t12 (some (eL,h1)) (opt (loadX (some 4) t3 h1) fun t14 => eqH h1 h1 (opt (nilCheckX a0) fun t16 => opt (fieldAddrX 0 t16) fun t17 => opt (loadX none t17 h1) fun t18 => eqH h1 h1 (opt2 (c 153 [t14,t18] h1) fun t19 h2 => eqH h2 h1 (opt (extractX t19 0) fun t20 => opt (extractX t19 1) fun t21 => opt (extractX t19 2) fun t22 => opt (fastBin .neq t21 (iL 0)) fun t24 => test t24 (opt2 (c 47 [a0,t21,t22] h1) fun t28 h3 => some (t20,h3)) (some (t20,h1))))))
theorem TF102 (c : CF) (a0 a1 : AV) (h : Heap) : (rk P0 c 30 c102).1 k102 [] k102 gK (argsTr gl 0 [a0,a1]) h = F102 c a0 a1 h := by kernel_rfl
noncomputable def N102 : FnF := n2 F102
theorem N102_ok : FnOk P0 gl 102 N102 := n2_ok namesOk mixedOrders lowOk Tryz.func102 (by kernel_rfl) (by kernel_rfl) (by kernel_rfl) TF102
noncomputable def c103 : Code := codeOf Tryz.f103
noncomputable def k103 : Kt := finK P0 Tryz.f103.results.toList
noncomputable def S103_0 (c : CF) (t0 t3 t4 t5 : AV) (h : Heap) : Res := opt (loadX (some 4) t3 h) fun t73 => opt (loadX (some 9) t5 h) fun t74 => opt2 (c 156 [t0,t73,t74] h) fun t75 h1 => optH (storeX 9 t4 t75 h1) fun h2 => opt (loadX (some 9) t4 h2) fun res => some (res,h2)
theorem TS103_0 (c : CF) : (rk P0 c 76 c103.s5).1 k103 [] k103 gK = L4 (S103_0 c) 0 3 4 5 := by funext s h; kernel_rfl
noncomputable def S103_1 (c : CF) (t0 t3 t4 t5 t66 : AV) (h : Heap) : Res := test t66 (opt (fieldAddrX 1 t3) fun t68 => opt (loadX none t68 h) fun t69 => opt2 (c 47 [t0,(iL 12),t69] h) fun t70 h1 => opt (loadX (some 9) t5 h1) fun t71 => optH (storeX 9 t4 t71 h1) fun h2 => opt (loadX (some 9) t4 h2) fun res => some (res,h2)) (S103_0 c t0 t3 t4 t5 h)
theorem TS103_1 (c : CF) : (rk P0 c 76 c103.s4.fst.snd).1 (L4 (S103_0 c) 0 3 4 5) [] k103 gK = L5 (S103_1 c) 0 3 4 5 66 := by funext s h; kernel_rfl
noncomputable def S103_2 (c : CF) (t0 t3 t4 t5 : AV) (h : Heap) : Res := opt (loadX (some 4) t3 h) fun t50 => opt2 (c 44 [t50] h) fun t51 h1 => opt (notX t51) fun t52 => test t52 (S103_1 c t0 t3 t4 t5 tL h1) (opt (fieldAddrX 3 t3) fun t54 => opt (loadX none t54 h1) fun t55 => opt (lenS t55) fun t56 => opt (fastBin .eql t56 (iL 0)) fun t57 => test t57 (S103_1 c t0 t3 t4 t5 tL h1) (opt (fieldAddrX 3 t3) fun t60 => opt (loadX none t60 h1) fun t61 => opt (indexAddrS 4 t61 (iL 0) h1) fun t62 => opt (loadX (some 4) t62 h1) fun t63 => opt2 (c 45 [t63] h1) fun t64 h2 => opt (notX t64) fun t65 => S103_1 c t0 t3 t4 t5 t65 h2))
theorem TS103_2 (c : CF) : (rk P0 c 76 c103.s4).1 k103 [] k103 gK = L4 (S103_2 c) 0 3 4 5 := Eq.trans (seq_t (by kernel_rfl) (TS103_0 c) (seq_t (by kernel_rfl) (TS103_1 c) rfl)) (by funext s h; kernel_rfl)
noncomputable def S103_3 (c : CF) (t0 t3 t4 t5 t36 : AV) (h : Heap) : Res := test t36 (opt (fieldAddrX 0 t5) fun t45 => optH (storeX 1 t45 (iL 3) h) fun h1 => opt (fieldAddrX 2 t3) fun t46 => opt (loadX none t46 h1) fun t47 => opt (fieldAddrX 2 t5) fun t48 => optH (storeX 1 t48 t47 h1) fun h2 => opt (loadX (some 9) t5 h2) fun t49 => optH (storeX 9 t4 t49 h2) fun h3 => opt (loadX (some 9) t4 h3) fun res => some (res,h3)) (opt (fieldAddrX 1 t3) fun t28 => opt (loadX none t28 h) fun t29 => opt2 (c 47 [t0,(iL 12),t29] h) fun t30 h4 => opt (loadX (some 9) t5 h4) fun t49_1 => optH (storeX 9 t4 t49_1 h4) fun h5 => opt (loadX (some 9) t4 h5) fun res_1 => some (res_1,h5))
theorem TS103_3 (c : CF) : (rk P0 c 76 c103.s3.fst.snd.thn.snd.fst.bd.snd.els.snd).1 ((rk P0 c 76 c103.s3.fst.snd.thn.s2).1 (L4 (S103_2 c) 0 3 4 5) [] k103 gK) [(0,((rk P0 c 76 c103.s3.fst.snd.thn.s2).1 (L4 (S103_2 c) 0 3 4 5) [] k103 gK))] k103 gK = L5 (S103_3 c) 0 3 4 5 36 := by funext s h; kernel_rfl
noncomputable def S103_4 (c : CF) (t0 t3 t4 t5 : AV) (h : Heap) : Res := opt (fieldAddrX 2 t3) fun t37 => opt (loadX none t37 h) fun t38 => opt2 (c 46 [t38] h) fun t39 h1 => test t39 (S103_3 c t0 t3 t4 t5 tL h1) (opt (fieldAddrX 2 t3) fun t41 => opt (loadX none t41 h1) fun t42 => opt2 (c 155 [t42,fL] h1) fun t43 h2 => S103_3 c t0 t3 t4 t5 t43 h2)
theorem TS103_4 (c : CF) : (rk P0 c 76 c103.s3.fst.snd.thn.snd.fst.bd.snd.els).1 ((rk P0 c 76 c103.s3.fst.snd.thn.s2).1 (L4 (S103_2 c) 0 3 4 5) [] k103 gK) [(0,((rk P0 c 76 c103.s3.fst.snd.thn.s2).1 (L4 (S103_2 c) 0 3 4 5) [] k103 gK))] k103 gK = L4 (S103_4 c) 0 3 4 5 := Eq.trans (seq_t (by kernel_rfl) (TS103_3 c) rfl) (by funext s h; kernel_rfl)
noncomputable def S103_5 (c : CF) (t0 t3 t4 t5 t6 t31 : AV) (h : Heap) : Res := test t31 (opt (fieldAddrX 0 t5) fun t33 => optH (storeX 1 t33 (iL 1) h) fun h1 => opt (fieldAddrX 3 t5) fun t35 => optH (storeX 1 t35 t6 h1) fun h2 => opt (loadX (some 9) t5 h2) fun t49 => optH (storeX 9 t4 t49 h2) fun h3 => opt (loadX (some 9) t4 h3) fun res => some (res,h3)) (S103_4 c t0 t3 t4 t5 h)
theorem TS103_5 (c : CF) : (rk P0 c 76 c103.s3.fst.snd.thn.snd.fst.bd.snd).1 ((rk P0 c 76 c103.s3.fst.snd.thn.s2).1 (L4 (S103_2 c) 0 3 4 5) [] k103 gK) [(0,((rk P0 c 76 c103.s3.fst.snd.thn.s2).1 (L4 (S103_2 c) 0 3 4 5) [] k103 gK))] k103 gK = L6 (S103_5 c) 0 3 4 5 6 31 := Eq.trans (cond_t (by kernel_rfl) rfl (TS103_4 c)) (by funext s h; kernel_rfl)
noncomputable def S103_6 (c : CF) (t0 t3 t4 t5 t6 t7 : AV) (h : Heap) : Res := S103_5 c t0 t3 t4 t5 t6 t7 h
theorem TS103_6 (c : CF) : (rk P0 c 76 c103.s3.fst.snd.thn.snd).1 (L4 (S103_2 c) 0 3 4 5) [] k103 gK = L6 (S103_6 c) 0 3 4 5 6 7 := Eq.trans (seq_t (by kernel_rfl) rfl (block_t (id := 0) (by kernel_rfl) (seq_t (by kernel_rfl) (TS103_5 c) rfl))) (by funext s h; kernel_rfl)
noncomputable def S103_7 (c : CF) (t0 t3 t4 t5 : AV) (h : Heap) : Res := opt (fieldAddrX 2 t3) fun t22 => opt (loadX none t22 h) fun t23 => opt2 (c 154 [t23] h) fun t24 h1 => opt (extractX t24 0) fun t25 => opt (extractX t24 1) fun t26 => S103_6 c t0 t3 t4 t5 t25 t26 h1
theorem TS103_7 (c : CF) : (rk P0 c 76 c103.s3.fst.snd.thn).1 (L4 (S103_2 c) 0 3 4 5) [] k103 gK = L4 (S103_7 c) 0 3 4 5 := Eq.trans (seq_t (by kernel_rfl) (TS103_6 c) rfl) (by funext s h; kernel_rfl)
noncomputable def S103_8 (c : CF) (t0 t3 t4 t5 t20 : AV) (h : Heap) : Res := test t20 (S103_7 c t0 t3 t4 t5 h) (S103_2 c t0 t3 t4 t5 h)
theorem TS103_8 (c : CF) : (rk P0 c 76 c103.s3.fst.snd).1 (L4 (S103_2 c) 0 3 4 5) [] k103 gK = L5 (S103_8 c) 0 3 4 5 20 := Eq.trans (cond_t (by kernel_rfl) (TS103_7 c) rfl) (by funext s h; kernel_rfl)
noncomputable def S103_9 (c : CF) (t0 t3 t4 t5 : AV) (h : Heap) : Res := opt (loadX (some 4) t3 h) fun t19 => opt2 (c 45 [t19] h) fun t20 h1 => S103_8 c t0 t3 t4 t5 t20 h1
theorem TS103_9 (c : CF) : (rk P0 c 76 c103.s3).1 k103 [] k103 gK = L4 (S103_9 c) 0 3 4 5 := Eq.trans (seq_t (by kernel_rfl) (TS103_2 c) (seq_t (by kernel_rfl) (TS103_8 c) rfl)) (by funext s h; kernel_rfl)
noncomputable def S103_10 (c : CF) (t0 t3 t4 t5 : AV) (h : Heap) : Res := opt (fieldAddrX 0 t3) fun t11 => opt (loadX none t11 h) fun t12 => opt (fastBin .eql t12 (iL 4)) fun t13 => test t13 (opt (fieldAddrX 0 t5) fun t14 => optH (storeX 1 t14 (iL 2) h) fun h1 => opt (fieldAddrX 2 t3) fun t15 => opt (loadX none t15 h1) fun t16 => opt (fieldAddrX 4 t5) fun t17 => optH (storeX 1 t17 t16 h1) fun h2 => opt (loadX (some 9) t5 h2) fun t18 => optH (storeX 9 t4 t18 h2) fun h3 => opt (loadX (some 9) t4 h3) fun res => some (res,h3)) (S103_9 c t0 t3 t4 t5 h)
theorem TS103_10 (c : CF) : (rk P0 c 76 c103.s2).1 k103 [] k103 gK = L4 (S103_10 c) 0 3 4 5 := Eq.trans (seq_t (by kernel_rfl) (TS103_9 c) rfl) (by funext s h; kernel_rfl)
noncomputable def S103_11 (c : CF) (t0 t3 t4 : AV) (h : Heap) : Res := opt (fieldAddrX 1 t3) fun t8 => opt (loadX none t8 h) fun t9 => opt (buildX [(iL 0),(iL 0),eL,cL,eL,eL,nL,nL,nL] [(0,1),(1,1),(2,1),(3,1),(4,1),(5,1),(6,1),(7,1),(8,1)] [(1,t9)]) fun t10 => opt2 (box (.agg [(iL 0),(iL 0),eL,cL,eL,eL,nL,nL,nL]) h) fun t5 h1 => optH (storeX 9 t5 t10 h1) fun h2 => S103_10 c t0 t3 t4 t5 h2
theorem TS103_11 (c : CF) : (rk P0 c 76 c103.snd).1 k103 [] k103 gK = L3 (S103_11 c) 0 3 4 := Eq.trans (seq_t (by kernel_rfl) (TS103_10 c) rfl) (by funext s h; kernel_rfl)
noncomputable def F103 (c : CF) (a0 a1 : AV) (h : Heap) : Res := opt2 (box a1 h) fun t3 h1 => opt2 (box (.agg [(iL 0),(iL 0),eL,cL,eL,eL,nL,nL,nL]) h1) fun t4 h2 => S103_11 c a0 t3 t4 h2
theorem TF103 (c : CF) (a0 a1 : AV) (h : Heap) : (rk P0 c 76 c103).1 k103 [] k103 gK (argsTr gl 0 [a0,a1]) h = F103 c a0 a1 h := Eq.trans (congrFun (congrFun (seq_t (by kernel_rfl) (TS103_11 c) rfl) _) _) (by kernel_rfl)
noncomputable def N103 : FnF := n2 F103
theorem N103_ok : FnOk P0 gl 103 N103 := n2_ok namesOk mixedOrders lowOk Tryz.func103 (by kernel_rfl) (by kernel_rfl) (by kernel_rfl) TF103
noncomputable def c104 : Code := codeOf Tryz.f104
noncomputable def k104 : Kt := finK P0 Tryz.f104.results.toList
noncomputable def S104_0 (c : CF) (t5 : AV) (h : Heap) : Res := some (t5,h)
theorem TS104_0 (c : CF) : (rk P0 c 67 c104.s3).1 k104 [] k104 gK = L1 (S104_0 c) 5 := by funext s h; kernel_rfl
noncomputable def S104_2 (c : CF) (r1 : A4) (t0 t3 t5 t6 : AV) (h : Heap) : Res := opt (fastBin .add t6 (iL 1)) fun t22 => r1 t0 t3 t5 t22 h
theorem TS104_2 (c : CF) (r1 : A4) : (rk P0 c 67 c104.s2.fst.snd.bd.bd.s2).1 (L4 r1 0 3 5 6) [(0,(L1 (S104_0 c) 5))] k104 gK = L4 (S104_2 c r1) 0 3 5 6 := by funext s h; kernel_rfl
noncomputable def S104_3 (c : CF) (r1 : A4) (t0 t3 t5 t6 t7 : AV) (h : Heap) : Res := opt (fieldAddrX 3 t7) fun t50 => opt (loadX none t50 h) fun t51 => opt (indexAddrS 4 t51 (iL 0) h) fun t52 => opt (loadX (some 4) t52 h) fun t53 => opt2 (c 101 [t0,t53] h) fun t54 h1 => opt (fieldAddrX 3 t7) fun t58 => opt (loadX none t58 h1) fun t59 => opt (indexAddrS 4 t59 (iL 1) h1) fun t60 => opt (loadX (some 4) t60 h1) fun t61 => opt2 (c 102 [t0,t61] h1) fun t62 h2 => opt (buildX [eL,eL] [(0,1),(1,1)] [(0,t54),(1,t62)]) fun t63 => opt2 (bsliceX 2 (.agg [eL,eL]) 1 [(0,t63)] h2) fun t64 h3 => opt2 (appendX 2 32 t5 t64 h3) fun t65 h4 => S104_2 c r1 t0 t3 t65 t6 h4
theorem TS104_3 (c : CF) (r1 : A4) : (rk P0 c 67 c104.s2.fst.snd.bd.bd.snd.fst.bd.s2).1 (L4 (S104_2 c r1) 0 3 5 6) [(1,(L4 (S104_2 c r1) 0 3 5 6)),(0,(L1 (S104_0 c) 5))] k104 gK = L5 (S104_3 c r1) 0 3 5 6 7 := by funext s h; kernel_rfl
noncomputable def S104_4 (c : CF) (r1 : A4) (t0 t3 t5 t6 t7 t44 : AV) (h : Heap) : Res := test t44 (opt (fieldAddrX 1 t7) fun t46 => opt (loadX none t46 h) fun t47 => opt2 (c 47 [t0,(iL 12),t47] h) fun t48 h1 => S104_0 c t5 h1) (S104_3 c r1 t0 t3 t5 t6 t7 h)
theorem TS104_4 (c : CF) (r1 : A4) : (rk P0 c 67 c104.s2.fst.snd.bd.bd.snd.fst.bd.snd.fst.snd).1 (L5 (S104_3 c r1) 0 3 5 6 7) [(1,(L4 (S104_2 c r1) 0 3 5 6)),(0,(L1 (S104_0 c) 5))] k104 gK = L6 (S104_4 c r1) 0 3 5 6 7 44 := by funext s h; kernel_rfl
noncomputable def S104_5 (c : CF) (r1 : A4) (t0 t3 t5 t6 t7 : AV) (h : Heap) : Res := opt (loadX (some 4) t7 h) fun t28 => opt2 (c 44 [t28] h) fun t29 h1 => opt (notX t29) fun t30 => test t30 (S104_4 c r1 t0 t3 t5 t6 t7 tL h1) (opt (fieldAddrX 3 t7) fun t32 => opt (loadX none t32 h1) fun t33 => opt (lenS t33) fun t34 => opt (fastBin .neq t34 (iL 2)) fun t35 => test t35 (S104_4 c r1 t0 t3 t5 t6 t7 tL h1) (opt (fieldAddrX 3 t7) fun t38 => opt (loadX none t38 h1) fun t39 => opt (indexAddrS 4 t39 (iL 0) h1) fun t40 => opt (loadX (some 4) t40 h1) fun t41 => opt2 (c 45 [t41] h1) fun t42 h2 => opt (notX t42) fun t43 => S104_4 c r1 t0 t3 t5 t6 t7 t43 h2))
theorem TS104_5 (c : CF) (r1 : A4) : (rk P0 c 67 c104.s2.fst.snd.bd.bd.snd.fst.bd.snd).1 (L4 (S104_2 c r1) 0 3 5 6) [(1,(L4 (S104_2 c r1) 0 3 5 6)),(0,(L1 (S104_0 c) 5))] k104 gK = L5 (S104_5 c r1) 0 3 5 6 7 := Eq.trans (seq_t (by kernel_rfl) (TS104_3 c r1) (seq_t (by kernel_rfl) (TS104_4 c r1) rfl)) (by funext s h; kernel_rfl)
noncomputable def S104_6 (c : CF) (r1 : A4) (t0 t3 t5 t6 : AV) (h : Heap) : Res := opt (fieldAddrX 3 t3) fun t23 => opt (loadX none t23 h) fun t24 => opt (indexAddrS 4 t24 t6 h) fun t26 => opt (loadX (some 4) t26 h) fun t27 => opt2 (box (.agg [(iL 0),(iL 0),eL,nL]) h) fun t7 h1 => optH (storeX 4 t7 t27 h1) fun h2 => S104_5 c r1 t0 t3 t5 t6 t7 h2
theorem TS104_6 (c : CF) (r1 : A4) : (rk P0 c 67 c104.s2.fst.snd.bd.bd.snd).1 (L4 r1 0 3 5 6) [(0,(L1 (S104_0 c) 5))] k104 gK = L4 (S104_6 c r1) 0 3 5 6 := Eq.trans (seq_t (by kernel_rfl) (TS104_2 c r1) (block_t (id := 1) (by kernel_rfl) (seq_t (by kernel_rfl) (TS104_5 c r1) rfl))) (by funext s h; kernel_rfl)
noncomputable def S104_7b (c : CF) (r1 : A4) (t0 t3 t5 t6 : AV) (h : Heap) : Res := opt (fieldAddrX 3 t3) fun t10 => opt (loadX none t10 h) fun t11 => opt (lenS t11) fun t12 => opt (fastBin .lss t6 t12) fun t13 => test t13 (opt (nilCheckX t0) fun t16 => opt (fieldAddrX 1 t16) fun t17 => opt (loadX none t17 h) fun t18 => opt (fastBin .eql t18 (iL 0)) fun t19 => test t19 (S104_6 c r1 t0 t3 t5 t6 h) (S104_0 c t5 h)) (S104_0 c t5 h)
theorem TS104_7b (c : CF) (r1 : A4) : (rk P0 c 67 c104.s2.fst.snd.bd.bd).1 (L4 r1 0 3 5 6) [(0,(L1 (S104_0 c) 5))] k104 gK = L4 (S104_7b c r1) 0 3 5 6 := Eq.trans (seq_t (by kernel_rfl) (TS104_6 c r1) rfl) (by funext s h; kernel_rfl)
noncomputable def S104_1l (c : CF) : Nat → A4
  | 0 => fun _ _ _ _ _ => none
  | k + 1 => S104_7b c (S104_1l c k)
theorem TS104_1l (c : CF) : (rk P0 c 67 c104.s2.fst.snd.bd).1 (L1 (S104_0 c) 5) [(0,(L1 (S104_0 c) 5))] k104 gK = L4 (S104_1l c rounds) 0 3 5 6 := loop_t (by kernel_rfl) (loop_ind (A := fun m => L4 (S104_1l c m) 0 3 5 6) rfl (fun m => TS104_7b c (S104_1l c m)) rounds)
noncomputable def S104_8 (c : CF) (t0 t3 t5 t6 : AV) (h : Heap) : Res := S104_1l c rounds t0 t3 t5 t6 h
theorem TS104_8 (c : CF) : (rk P0 c 67 c104.s2.fst.snd).1 (L1 (S104_0 c) 5) [] k104 gK = L4 (S104_8 c) 0 3 5 6 := Eq.trans (block_t (id := 0) (by kernel_rfl) (TS104_1l c)) (by funext s h; kernel_rfl)
noncomputable def S104_9 (c : CF) (t0 t3 t5 : AV) (h : Heap) : Res := S104_8 c t0 t3 t5 (iL 0) h
theorem TS104_9 (c : CF) : (rk P0 c 67 c104.s2).1 k104 [] k104 gK = L3 (S104_9 c) 0 3 5 := Eq.trans (seq_t (by kernel_rfl) (TS104_0 c) (seq_t (by kernel_rfl) (TS104_8 c) rfl)) (by funext s h; kernel_rfl)
noncomputable def S104_10 (c : CF) (t0 t3 : AV) (h : Heap) : Res := S104_9 c t0 t3 nL h
theorem TS104_10 (c : CF) : (rk P0 c 67 c104.snd).1 k104 [] k104 gK = L2 (S104_10 c) 0 3 := Eq.trans (seq_t (by kernel_rfl) (TS104_9 c) rfl) (by funext s h; kernel_rfl)
noncomputable def F104 (c : CF) (a0 a1 : AV) (h : Heap) : Res := opt2 (box a1 h) fun t3 h1 => S104_10 c a0 t3 h1
theorem TF104 (c : CF) (a0 a1 : AV) (h : Heap) : (rk P0 c 67 c104).1 k104 [] k104 gK (argsTr gl 0 [a0,a1]) h = F104 c a0 a1 h := Eq.trans (congrFun (congrFun (seq_t (by kernel_rfl) (TS104_10 c) rfl) _) _) (by kernel_rfl)
noncomputable def N104 : FnF := n2 F104
theorem N104_ok : FnOk P0 gl 104 N104 := n2_ok namesOk mixedOrders lowOk Tryz.func104 (by kernel_rfl) (by kernel_rfl) (by kernel_rfl) TF104
noncomputable def c105 : Code := codeOf Tryz.f105
noncomputable def k105 : Kt := finK P0 Tryz.f105.results.toList
noncomputable def S105_0 (c : CF) (h : Heap) : Res := some ((iL (-1)),h)
theorem TS105_0 (c : CF) : (rk P0 c 19 c105.s2).1 k105 [] k105 gK = L0 (S105_0 c) := by funext s h; kernel_rfl
noncomputable def S105_2b (c : CF) (r1 : A4) (t0 t1 t7 t8 : AV) (h : Heap) : Res := opt (fastBin .lss t8 t7) fun t9 => test t9 (opt (indexAddrS 1 t0 t8 h) fun t14 => opt (loadX none t14 h) fun t15 => opt (fastBin .eql t1 t15) fun t16 => test t16 (some (t8,h)) (opt (fastBin .add t8 (iL 1)) fun t18 => r1 t0 t1 t7 t18 h)) (S105_0 c h)
theorem TS105_2b (c : CF) (r1 : A4) : (rk P0 c 19 c105.snd.fst.snd.bd.bd).1 (L4 r1 0 1 7 8) [(0,(L0 (S105_0 c)))] k105 gK = L4 (S105_2b c r1) 0 1 7 8 := by funext s h; kernel_rfl
noncomputable def S105_1l (c : CF) : Nat → A4
  | 0 => fun _ _ _ _ _ => none
  | k + 1 => S105_2b c (S105_1l c k)
theorem TS105_1l (c : CF) : (rk P0 c 19 c105.snd.fst.snd.bd).1 (L0 (S105_0 c)) [(0,(L0 (S105_0 c)))] k105 gK = L4 (S105_1l c rounds) 0 1 7 8 := loop_t (by kernel_rfl) (loop_ind (A := fun m => L4 (S105_1l c m) 0 1 7 8) rfl (fun m => TS105_2b c (S105_1l c m)) rounds)
noncomputable def S105_3 (c : CF) (t0 t1 t7 t8 : AV) (h : Heap) : Res := S105_1l c rounds t0 t1 t7 t8 h
theorem TS105_3 (c : CF) : (rk P0 c 19 c105.snd.fst.snd).1 (L0 (S105_0 c)) [] k105 gK = L4 (S105_3 c) 0 1 7 8 := Eq.trans (block_t (id := 0) (by kernel_rfl) (TS105_1l c)) (by funext s h; kernel_rfl)
noncomputable def S105_4 (c : CF) (t0 t1 : AV) (h : Heap) : Res := opt (lenS t0) fun t7 => S105_3 c t0 t1 t7 (iL 0) h
theorem TS105_4 (c : CF) : (rk P0 c 19 c105.snd).1 k105 [] k105 gK = L2 (S105_4 c) 0 1 := Eq.trans (seq_t (by kernel_rfl) (TS105_0 c) (seq_t (by kernel_rfl) (TS105_3 c) rfl)) (by funext s h; kernel_rfl)
noncomputable def F105 (c : CF) (a0 a1 : AV) (h : Heap) : Res := S105_4 c a0 a1 h
theorem TF105 (c : CF) (a0 a1 : AV) (h : Heap) : (rk P0 c 19 c105).1 k105 [] k105 gK (argsTr gl 0 [a0,a1]) h = F105 c a0 a1 h := Eq.trans (congrFun (congrFun (seq_t (by kernel_rfl) (TS105_4 c) rfl) _) _) (by kernel_rfl)
noncomputable def N105 : FnF := n2 F105
theorem N105_ok : FnOk P0 gl 105 N105 := n2_ok namesOk mixedOrders lowOk Tryz.func105 (by kernel_rfl) (by kernel_rfl) (by kernel_rfl) TF105
noncomputable def c106 : Code := codeOf Tryz.f106
noncomputable def k106 : Kt := finK P0 Tryz.f106.results.toList
noncomputable def F106 (c : CF) (a0 : AV) (h : Heap) : Res := opt (binX P0 .slice .eql 103 a0 nL) fun t4 => test t4 (some (nL,h)) (opt2 (bsliceX 2 (.agg [eL,nL]) 0 [] h) fun t5 h1 => opt2 (appendX 2 40 t5 a0 h1) fun t7 h2 => some (t7,h2))
theorem TF106 (c : CF) (a0 : AV) (h : Heap) : (rk P0 c 8 c106).1 k106 [] k106 gK (argsTr gl 0 [a0]) h = F106 c a0 h := by kernel_rfl
noncomputable def N106 : FnF := n1 F106
theorem N106_ok : FnOk P0 gl 106 N106 := n1_ok namesOk mixedOrders lowOk Tryz.func106 (by kernel_rfl) (by kernel_rfl) (by kernel_rfl) TF106
noncomputable def c107 : Code := codeOf Tryz.f107
noncomputable def k107 : Kt := finK P0 Tryz.f107.results.toList
noncomputable def F107 (c : CF) (a0 : AV) (h : Heap) : Res := opt (binX P0 .slice .eql 22 a0 nL) fun t4 => test t4 (some (nL,h)) (opt2 (bsliceX 1 eL 0 [] h) fun t5 h1 => opt2 (appendX 1 16 t5 a0 h1) fun t7 h2 => some (t7,h2))
theorem TF107 (c : CF) (a0 : AV) (h : Heap) : (rk P0 c 8 c107).1 k107 [] k107 gK (argsTr gl 0 [a0]) h = F107 c a0 h := by kernel_rfl
noncomputable def N107 : FnF := n1 F107
theorem N107_ok : FnOk P0 gl 107 N107 := n1_ok namesOk mixedOrders lowOk Tryz.func107 (by kernel_rfl) (by kernel_rfl) (by kernel_rfl) TF107
noncomputable def c108 : Code := codeOf Tryz.f108
noncomputable def k108 : Kt := finK P0 Tryz.f108.results.toList
noncomputable def S108_1 (c : CF) (r0 : A7) (t0 t1 t2 t3 t4 t12 t13 : AV) (h : Heap) : Res := opt2 (c 164 [t0,t1,t2,t13,t4] h) fun t111 h1 => opt (extractX t111 0) fun t112 => opt (extractX t111 1) fun t113 => opt (fastBin .sub t112 t1) fun t117 => opt (fastBin .sub t2 t112) fun t120 => opt (binX P0 .none .quo 3 t12 (iL 8)) fun t122 => opt (fastBin .lss t117 t120) fun t125 => test t125 (opt (fastBin .geq t117 t122) fun t128 => opt2 (c 108 [t0,t1,t112,t3,t4] h1) fun t134 h2 => opt (fastBin .add t112 (iL 1)) fun t136 => r0 t0 t136 t2 t3 t4 t128 t113 h2) (opt (fastBin .geq t120 t122) fun t139 => opt (fastBin .add t112 (iL 1)) fun t142 => opt2 (c 108 [t0,t142,t2,t3,t4] h1) fun t146 h3 => r0 t0 t1 t112 t3 t4 t139 t113 h3)
theorem TS108_1 (c : CF) (r0 : A7) : (rk P0 c 148 c108.s2.bd.bd.bd.s8).1 (L7 r0 0 1 2 3 4 10 11) [(1,(L7 r0 0 1 2 3 4 10 11)),(0,k108)] k108 gK = L7 (S108_1 c r0) 0 1 2 3 4 12 13 := by funext s h; kernel_rfl
noncomputable def S108_2 (c : CF) (r0 : A7) (t0 t1 t2 t3 t4 t10 t11 t12 t13 t97 : AV) (h : Heap) : Res := test t97 (opt2 (c 163 [t0,t1,t2,t13,t4] h) fun t103 h1 => r0 t0 t103 t2 t3 t4 t10 t11 h1) (S108_1 c r0 t0 t1 t2 t3 t4 t12 t13 h)
theorem TS108_2 (c : CF) (r0 : A7) : (rk P0 c 148 c108.s2.bd.bd.bd.s7.fst.snd).1 (L7 (S108_1 c r0) 0 1 2 3 4 12 13) [(1,(L7 r0 0 1 2 3 4 10 11)),(0,k108)] k108 gK = L10 (S108_2 c r0) 0 1 2 3 4 10 11 12 13 97 := by funext s h; kernel_rfl
noncomputable def S108_3 (c : CF) (r0 : A7) (t0 t1 t2 t3 t4 t10 t11 t12 t13 : AV) (h : Heap) : Res := opt (fastBin .gtr t1 (iL 0)) fun t82 => test t82 (opt (fastBin .sub t1 (iL 1)) fun t87 => opt (indexAddrS 4 t0 t87 h) fun t88 => eqH h h (opt (loadX (some 4) t88 h) fun t89 => eqH h h (opt (indexAddrS 4 t0 t13 h) fun t92 => eqH h h (opt (loadX (some 4) t92 h) fun t93 => eqH h h (opt2 (callV P0 c t4 [t89,t93] h) fun t94 h1 => eqH h1 h (opt (fastBin .lss t94 (iL 0)) fun t95 => opt (notX t95) fun t96 => S108_2 c r0 t0 t1 t2 t3 t4 t10 t11 t12 t13 t96 h)))))) (S108_2 c r0 t0 t1 t2 t3 t4 t10 t11 t12 t13 fL h)
theorem TS108_3 (c : CF) (r0 : A7) : (rk P0 c 148 c108.s2.bd.bd.bd.s7).1 (L7 r0 0 1 2 3 4 10 11) [(1,(L7 r0 0 1 2 3 4 10 11)),(0,k108)] k108 gK = L9 (S108_3 c r0) 0 1 2 3 4 10 11 12 13 := Eq.trans (seq_t (by kernel_rfl) (TS108_1 c r0) (seq_t (by kernel_rfl) (TS108_2 c r0) rfl)) (by funext s h; kernel_rfl)
noncomputable def S108_4 (c : CF) (r0 : A7) (t0 t1 t2 t3 t4 t10 t11 t12 t13 t75 : AV) (h : Heap) : Res := test t75 (opt2 (c 162 [t0,t1,t2,t4] h) fun t80 h1 => test t80 (some ((.lit (.tuple #[])),h1)) (S108_3 c r0 t0 t1 t2 t3 t4 t10 t11 t12 t13 h1)) (S108_3 c r0 t0 t1 t2 t3 t4 t10 t11 t12 t13 h)
theorem TS108_4 (c : CF) (r0 : A7) : (rk P0 c 148 c108.s2.bd.bd.bd.s6.fst.snd).1 (L9 (S108_3 c r0) 0 1 2 3 4 10 11 12 13) [(1,(L7 r0 0 1 2 3 4 10 11)),(0,k108)] k108 gK = L10 (S108_4 c r0) 0 1 2 3 4 10 11 12 13 75 := by funext s h; kernel_rfl
noncomputable def S108_5 (c : CF) (r0 : A7) (t0 t1 t2 t3 t4 t10 t11 t12 t13 t14 : AV) (h : Heap) : Res := test t10 (test t11 (opt (fastBin .eql t14 (iL 1)) fun t74 => S108_4 c r0 t0 t1 t2 t3 t4 t10 t11 t12 t13 t74 h) (S108_4 c r0 t0 t1 t2 t3 t4 t10 t11 t12 t13 fL h)) (S108_4 c r0 t0 t1 t2 t3 t4 t10 t11 t12 t13 fL h)
theorem TS108_5 (c : CF) (r0 : A7) : (rk P0 c 148 c108.s2.bd.bd.bd.s6).1 (L7 r0 0 1 2 3 4 10 11) [(1,(L7 r0 0 1 2 3 4 10 11)),(0,k108)] k108 gK = L10 (S108_5 c r0) 0 1 2 3 4 10 11 12 13 14 := Eq.trans (seq_t (by kernel_rfl) (TS108_3 c r0) (seq_t (by kernel_rfl) (TS108_4 c r0) rfl)) (by funext s h; kernel_rfl)
noncomputable def S108_6 (c : CF) (r0 : A7) (t0 t1 t2 t3 t4 t10 t11 t12 t13 t14 : AV) (h : Heap) : Res := opt (fastBin .eql t14 (iL 2)) fun t56 => test t56 (opt2 (c 161 [t0,t1,t2,t4] h) fun t61 h1 => opt (fastBin .sub t2 (iL 1)) fun t63 => opt (fastBin .sub t13 t1) fun t66 => opt (fastBin .sub t63 t66) fun t67 => S108_5 c r0 t0 t1 t2 t3 t4 t10 t11 t12 t67 (iL 1) h1) (S108_5 c r0 t0 t1 t2 t3 t4 t10 t11 t12 t13 t14 h)
theorem TS108_6 (c : CF) (r0 : A7) : (rk P0 c 148 c108.s2.bd.bd.bd.s5).1 (L7 r0 0 1 2 3 4 10 11) [(1,(L7 r0 0 1 2 3 4 10 11)),(0,k108)] k108 gK = L10 (S108_6 c r0) 0 1 2 3 4 10 11 12 13 14 := Eq.trans (seq_t (by kernel_rfl) (TS108_5 c r0) rfl) (by funext s h; kernel_rfl)
noncomputable def S108_7 (c : CF) (r0 : A7) (t0 t1 t2 t3 t4 t10 t11 t12 : AV) (h : Heap) : Res := opt2 (c 160 [t0,t1,t2,t4] h) fun t52 h1 => opt (extractX t52 0) fun t53 => opt (extractX t52 1) fun t54 => S108_6 c r0 t0 t1 t2 t3 t4 t10 t11 t12 t53 t54 h1
theorem TS108_7 (c : CF) (r0 : A7) : (rk P0 c 148 c108.s2.bd.bd.bd.s4).1 (L7 r0 0 1 2 3 4 10 11) [(1,(L7 r0 0 1 2 3 4 10 11)),(0,k108)] k108 gK = L8 (S108_7 c r0) 0 1 2 3 4 10 11 12 := Eq.trans (seq_t (by kernel_rfl) (TS108_6 c r0) rfl) (by funext s h; kernel_rfl)
noncomputable def S108_8 (c : CF) (r0 : A7) (t0 t1 t2 t3 t4 t10 t11 t12 : AV) (h : Heap) : Res := opt (notX t10) fun t39 => test t39 (opt2 (c 159 [t0,t1,t2,t4] h) fun t44 h1 => opt (fastBin .sub t3 (iL 1)) fun t46 => S108_7 c r0 t0 t1 t2 t46 t4 t10 t11 t12 h1) (S108_7 c r0 t0 t1 t2 t3 t4 t10 t11 t12 h)
theorem TS108_8 (c : CF) (r0 : A7) : (rk P0 c 148 c108.s2.bd.bd.bd.s3).1 (L7 r0 0 1 2 3 4 10 11) [(1,(L7 r0 0 1 2 3 4 10 11)),(0,k108)] k108 gK = L8 (S108_8 c r0) 0 1 2 3 4 10 11 12 := Eq.trans (seq_t (by kernel_rfl) (TS108_7 c r0) rfl) (by funext s h; kernel_rfl)
noncomputable def S108_9 (c : CF) (r0 : A7) (t0 t1 t2 t3 t4 t10 t11 t12 : AV) (h : Heap) : Res := opt (fastBin .eql t3 (iL 0)) fun t32 => test t32 (opt2 (c 158 [t0,t1,t2,t4] h) fun t37 h1 => some ((.lit (.tuple #[])),h1)) (S108_8 c r0 t0 t1 t2 t3 t4 t10 t11 t12 h)
theorem TS108_9 (c : CF) (r0 : A7) : (rk P0 c 148 c108.s2.bd.bd.bd.s2).1 (L7 r0 0 1 2 3 4 10 11) [(1,(L7 r0 0 1 2 3 4 10 11)),(0,k108)] k108 gK = L8 (S108_9 c r0) 0 1 2 3 4 10 11 12 := Eq.trans (seq_t (by kernel_rfl) (TS108_8 c r0) rfl) (by funext s h; kernel_rfl)
noncomputable def S108_10 (c : CF) (r0 : A7) (t0 t1 t2 t3 t4 t10 t11 t12 : AV) (h : Heap) : Res := opt (fastBin .leq t12 (iL 12)) fun t25 => test t25 (opt2 (c 157 [t0,t1,t2,t4] h) fun t30 h1 => some ((.lit (.tuple #[])),h1)) (S108_9 c r0 t0 t1 t2 t3 t4 t10 t11 t12 h)
theorem TS108_10 (c : CF) (r0 : A7) : (rk P0 c 148 c108.s2.bd.bd.bd.snd).1 (L7 r0 0 1 2 3 4 10 11) [(1,(L7 r0 0 1 2 3 4 10 11)),(0,k108)] k108 gK = L8 (S108_10 c r0) 0 1 2 3 4 10 11 12 := Eq.trans (seq_t (by kernel_rfl) (TS108_9 c r0) rfl) (by funext s h; kernel_rfl)
noncomputable def S108_11b (c : CF) (r0 : A7) (t0 t1 t2 t3 t4 t10 t11 : AV) (h : Heap) : Res := opt (fastBin .sub t2 t1) fun t23 => S108_10 c r0 t0 t1 t2 t3 t4 t10 t11 t23 h
theorem TS108_11b (c : CF) (r0 : A7) : (rk P0 c 148 c108.s2.bd.bd).1 (L7 r0 0 1 2 3 4 10 11) [(0,k108)] k108 gK = L7 (S108_11b c r0) 0 1 2 3 4 10 11 := Eq.trans (block_t (id := 1) (by kernel_rfl) (seq_t (by kernel_rfl) (TS108_10 c r0) rfl)) (by funext s h; kernel_rfl)
noncomputable def S108_0l (c : CF) : Nat → A7
  | 0 => fun _ _ _ _ _ _ _ _ => none
  | k + 1 => S108_11b c (S108_0l c k)
theorem TS108_0l (c : CF) : (rk P0 c 148 c108.s2.bd).1 k108 [(0,k108)] k108 gK = L7 (S108_0l c rounds) 0 1 2 3 4 10 11 := loop_t (by kernel_rfl) (loop_ind (A := fun m => L7 (S108_0l c m) 0 1 2 3 4 10 11) rfl (fun m => TS108_11b c (S108_0l c m)) rounds)
noncomputable def S108_12 (c : CF) (t0 t1 t2 t3 t4 t10 t11 : AV) (h : Heap) : Res := S108_0l c rounds t0 t1 t2 t3 t4 t10 t11 h
theorem TS108_12 (c : CF) : (rk P0 c 148 c108.s2).1 k108 [] k108 gK = L7 (S108_12 c) 0 1 2 3 4 10 11 := Eq.trans (block_t (id := 0) (by kernel_rfl) (TS108_0l c)) (by funext s h; kernel_rfl)
noncomputable def S108_13 (c : CF) (t0 t1 t2 t3 t4 t10 : AV) (h : Heap) : Res := S108_12 c t0 t1 t2 t3 t4 t10 tL h
theorem TS108_13 (c : CF) : (rk P0 c 148 c108.snd).1 k108 [] k108 gK = L6 (S108_13 c) 0 1 2 3 4 10 := Eq.trans (seq_t (by kernel_rfl) (TS108_12 c) rfl) (by funext s h; kernel_rfl)
noncomputable def F108 (c : CF) (a0 a1 a2 a3 a4 : AV) (h : Heap) : Res := S108_13 c a0 a1 a2 a3 a4 tL h
theorem TF108 (c : CF) (a0 a1 a2 a3 a4 : AV) (h : Heap) : (rk P0 c 148 c108).1 k108 [] k108 gK (argsTr gl 0 [a0,a1,a2,a3,a4]) h = F108 c a0 a1 a2 a3 a4 h := Eq.trans (congrFun (congrFun (seq_t (by kernel_rfl) (TS108_13 c) rfl) _) _) (by kernel_rfl)
noncomputable def N108 : FnF := n5 F108
theorem N108_ok : FnOk P0 gl 108 N108 := n5_ok namesOk mixedOrders lowOk Tryz.func108 (by kernel_rfl) (by kernel_rfl) (by kernel_rfl) TF108
noncomputable def c109 : Code := codeOf Tryz.f109
noncomputable def k109 : Kt := finK P0 Tryz.f109.results.toList
noncomputable def F109 (c : CF) (a0 : AV) (h : Heap) : Res := opt2 (c 166 [a0] h) fun t7 h1 => some (t7,h1)
theorem TF109 (c : CF) (a0 : AV) (h : Heap) : (rk P0 c 8 c109).1 k109 [] k109 gK (argsTr gl 0 [a0]) h = F109 c a0 h := by kernel_rfl
noncomputable def N109 : FnF := n1 F109
theorem N109_ok : FnOk P0 gl 109 N109 := n1_ok namesOk mixedOrders lowOk Tryz.func109 (by kernel_rfl) (by kernel_rfl) (by kernel_rfl) TF109
noncomputable def c113 : Code := codeOf Tryz.f113
noncomputable def k113 : Kt := finK P0 Tryz.f113.results.toList
noncomputable def S113_0 (c : CF) (t0 t5 t6 : AV) (h : Heap) : Res := opt (fastBin .add t6 (iL 1)) fun t44 => opt (fastCut t0 (some t44) none none) fun t45 => eqH h h (some ((.tup [t5,t45,tL]),h))
theorem TS113_0 (c : CF) : (rk P0 c 46 c113.s5).1 k113 [] k113 gK = L3 (S113_0 c) 0 5 6 := by funext s h; kernel_rfl
noncomputable def S113_2b (c : CF) (r1 : A3) (t0 t5 t6 : AV) (h : Heap) : Res := opt (fastIndex t0 t6) fun t14 => opt (fastBin .neq t14 (uL 41)) fun t15 => test t15 (opt (fastIndex t0 t6) fun t18 => opt (fastBin .eql t18 (uL 44)) fun t19 => test t19 (opt (fastBin .add t6 (iL 1)) fun t21 => r1 t0 t5 t21 h) (opt (fastCut t0 (some t6) none none) fun t25 => opt2 (c 171 [t25] h) fun t26 h1 => opt (extractX t26 0) fun t27 => opt (extractX t26 1) fun t28 => opt (fastBin .add t6 t27) fun t34 => opt (fastCut t0 (some t6) (some t34) none) fun t35 => opt2 (bsliceX 1 eL 1 [(0,t35)] h1) fun t36 h2 => opt2 (appendX 1 16 t5 t36 h2) fun t37 h3 => opt (fastBin .add t6 t27) fun t40 => r1 t0 t37 t40 h3)) (S113_0 c t0 t5 t6 h)
theorem TS113_2b (c : CF) (r1 : A3) : (rk P0 c 46 c113.s4.fst.bd.bd).1 (L3 r1 0 5 6) [(0,(L3 (S113_0 c) 0 5 6))] k113 gK = L3 (S113_2b c r1) 0 5 6 := by funext s h; kernel_rfl
noncomputable def S113_1l (c : CF) : Nat → A3
  | 0 => fun _ _ _ _ => none
  | k + 1 => S113_2b c (S113_1l c k)
theorem TS113_1l (c : CF) : (rk P0 c 46 c113.s4.fst.bd).1 (L3 (S113_0 c) 0 5 6) [(0,(L3 (S113_0 c) 0 5 6))] k113 gK = L3 (S113_1l c rounds) 0 5 6 := loop_t (by kernel_rfl) (loop_ind (A := fun m => L3 (S113_1l c m) 0 5 6) rfl (fun m => TS113_2b c (S113_1l c m)) rounds)
noncomputable def S113_3 (c : CF) (t0 t5 t6 : AV) (h : Heap) : Res := S113_1l c rounds t0 t5 t6 h
theorem TS113_3 (c : CF) : (rk P0 c 46 c113.s4).1 k113 [] k113 gK = L3 (S113_3 c) 0 5 6 := Eq.trans (seq_t (by kernel_rfl) (TS113_0 c) (block_t (id := 0) (by kernel_rfl) (TS113_1l c))) (by funext s h; kernel_rfl)
noncomputable def S113_4 (c : CF) (t0 t5 : AV) (h : Heap) : Res := S113_3 c t0 t5 (iL 1) h
theorem TS113_4 (c : CF) : (rk P0 c 46 c113.s3).1 k113 [] k113 gK = L2 (S113_4 c) 0 5 := Eq.trans (seq_t (by kernel_rfl) (TS113_3 c) rfl) (by funext s h; kernel_rfl)
noncomputable def S113_5 (c : CF) (t0 : AV) (h : Heap) : Res := S113_4 c t0 nL h
theorem TS113_5 (c : CF) : (rk P0 c 46 c113.s2).1 k113 [] k113 gK = L1 (S113_5 c) 0 := Eq.trans (seq_t (by kernel_rfl) (TS113_4 c) rfl) (by funext s h; kernel_rfl)
noncomputable def S113_6 (c : CF) (t0 : AV) (h : Heap) : Res := opt2 (c 170 [t0] h) fun t10 h1 => opt (fastBin .neq t10 (iL 3)) fun t11 => test t11 (some ((.tup [nL,eL,fL]),h1)) (S113_5 c t0 h1)
theorem TS113_6 (c : CF) : (rk P0 c 46 c113.snd).1 k113 [] k113 gK = L1 (S113_6 c) 0 := Eq.trans (seq_t (by kernel_rfl) (TS113_5 c) rfl) (by funext s h; kernel_rfl)
noncomputable def F113 (c : CF) (a0 : AV) (h : Heap) : Res := S113_6 c a0 h
theorem TF113 (c : CF) (a0 : AV) (h : Heap) : (rk P0 c 46 c113).1 k113 [] k113 gK (argsTr gl 0 [a0]) h = F113 c a0 h := Eq.trans (congrFun (congrFun (seq_t (by kernel_rfl) (TS113_6 c) rfl) _) _) (by kernel_rfl)
noncomputable def N113 : FnF := n1 F113
theorem N113_ok : FnOk P0 gl 113 N113 := n1_ok namesOk mixedOrders lowOk Tryz.func113 (by kernel_rfl) (by kernel_rfl) (by kernel_rfl) TF113
noncomputable def c114 : Code := codeOf Tryz.f114
noncomputable def k114 : Kt := finK P0 Tryz.f114.results.toList
noncomputable def F114 (c : CF) (a0 : AV) (h : Heap) : Res := opt (lenStr a0) fun t6 => opt (fastBin .gtr t6 (iL 200)) fun t7 => test t7 (some (fL,h)) (opt2 (c 171 [a0] h) fun t10 h1 => opt (extractX t10 0) fun t11 => opt (extractX t10 1) fun t12 => opt (fastBin .gtr t11 (iL 0)) fun t14 => test t14 (opt (lenStr a0) fun t18 => opt (fastBin .eql t11 t18) fun t19 => some (t19,h1)) (some (fL,h1)))
theorem TF114 (c : CF) (a0 : AV) (h : Heap) : (rk P0 c 21 c114).1 k114 [] k114 gK (argsTr gl 0 [a0]) h = F114 c a0 h := by kernel_rfl
noncomputable def N114 : FnF := n1 F114
theorem N114_ok : FnOk P0 gl 114 N114 := n1_ok namesOk mixedOrders lowOk Tryz.func114 (by kernel_rfl) (by kernel_rfl) (by kernel_rfl) TF114
noncomputable def c115 : Code := codeOf Tryz.f115
noncomputable def k115 : Kt := finK P0 Tryz.f115.results.toList
noncomputable def F115 (c : CF) (a0 a1 : AV) (h : Heap) : Res := opt2 (box (.agg [(iL 0),eL,eL,nL]) h) fun t4 h1 => opt (nilCheckX a0) fun t10 => opt (fieldAddrX 0 t10) fun t11 => opt (loadX none t11 h1) fun t12 => opt2 (c 121 [t12,a1] h1) fun t14 h2 => opt (extractX t14 0) fun t15 => opt (extractX t14 1) fun t16 => opt2 (box (.agg [(iL 0),eL,eL,nL]) h2) fun t6 h3 => optH (storeX 4 t6 t15 h3) fun h4 => opt (loadX (some 4) t6 h4) fun t17 => eqH h4 h4 (test t16 (opt (nilCheckX a0) fun t21 => opt (fieldAddrX 1 t21) fun t22 => opt (loadX none t22 h4) fun t23 => eqH h4 h4 (opt2 (c 50 [t23,a1] h4) fun t25 h5 => eqH h5 h4 (opt (notX t25) fun t26 => optH (storeX 4 t4 t17 h4) fun h6 => opt (loadX (some 4) t4 h6) fun res => some ((.tup [res,t26]),h6)))) (optH (storeX 4 t4 t17 h4) fun h7 => opt (loadX (some 4) t4 h7) fun res_1 => some ((.tup [res_1,fL]),h7)))
theorem TF115 (c : CF) (a0 a1 : AV) (h : Heap) : (rk P0 c 28 c115).1 k115 [] k115 gK (argsTr gl 0 [a0,a1]) h = F115 c a0 a1 h := by kernel_rfl
noncomputable def N115 : FnF := n2 F115
theorem N115_ok : FnOk P0 gl 115 N115 := n2_ok namesOk mixedOrders lowOk Tryz.func115 (by kernel_rfl) (by kernel_rfl) (by kernel_rfl) TF115
noncomputable def c116 : Code := codeOf Tryz.f116
noncomputable def k116 : Kt := finK P0 Tryz.f116.results.toList
noncomputable def S116_0 (c : CF) (t3 t4 : AV) (h : Heap) : Res := test t4 (some ((iL 1),h)) (opt (fastBin .eql t3 (sL [99,117,116])) fun t11 => test t11 (some ((iL 3),h)) (opt (fastBin .eql t3 (sL [97,100,100])) fun t13 => test t13 (test t13 (some ((iL 2),h)) (some ((iL 0),h))) (opt (fastBin .eql t3 (sL [115,117,98])) fun t14 => test t14 (test t14 (some ((iL 2),h)) (some ((iL 0),h))) (opt (fastBin .eql t3 (sL [109,117,108])) fun t15 => test t15 (test t15 (some ((iL 2),h)) (some ((iL 0),h))) (opt (fastBin .eql t3 (sL [101,113])) fun t16 => test t16 (test t16 (some ((iL 2),h)) (some ((iL 0),h))) (opt (fastBin .eql t3 (sL [108,116])) fun t17 => test t17 (test t17 (some ((iL 2),h)) (some ((iL 0),h))) (opt (fastBin .eql t3 (sL [99,97,116])) fun t18 => test t18 (test t18 (some ((iL 2),h)) (some ((iL 0),h))) (opt (fastBin .eql t3 (sL [97,116])) fun t19 => test t19 (some ((iL 2),h)) (some ((iL 0),h))))))))))
theorem TS116_0 (c : CF) : (rk P0 c 20 c116.snd.fst.snd.bd.snd).1 ((rk P0 c 20 c116.s2).1 k116 [] k116 gK) [(0,((rk P0 c 20 c116.s2).1 k116 [] k116 gK))] k116 gK = L2 (S116_0 c) 3 4 := by funext s h; kernel_rfl
noncomputable def S116_1 (c : CF) (t3 : AV) (h : Heap) : Res := opt (fastBin .eql t3 (sL [110,101,103])) fun t5 => test t5 (S116_0 c t3 t5 h) (opt (fastBin .eql t3 (sL [99,111,110,106])) fun t6 => test t6 (S116_0 c t3 t6 h) (opt (fastBin .eql t3 (sL [114,101])) fun t7 => test t7 (S116_0 c t3 t7 h) (opt (fastBin .eql t3 (sL [105,109])) fun t8 => test t8 (S116_0 c t3 t8 h) (opt (fastBin .eql t3 (sL [108,101,110])) fun t9 => S116_0 c t3 t9 h))))
theorem TS116_1 (c : CF) : (rk P0 c 20 c116.snd.fst.snd).1 ((rk P0 c 20 c116.s2).1 k116 [] k116 gK) [] k116 gK = L1 (S116_1 c) 3 := Eq.trans (block_t (id := 0) (by kernel_rfl) (seq_t (by kernel_rfl) (TS116_0 c) rfl)) (by funext s h; kernel_rfl)
noncomputable def S116_2 (c : CF) (t0 : AV) (h : Heap) : Res := S116_1 c t0 h
theorem TS116_2 (c : CF) : (rk P0 c 20 c116.snd).1 k116 [] k116 gK = L1 (S116_2 c) 0 := Eq.trans (seq_t (by kernel_rfl) rfl (seq_t (by kernel_rfl) (TS116_1 c) rfl)) (by funext s h; kernel_rfl)
noncomputable def F116 (c : CF) (a0 : AV) (h : Heap) : Res := S116_2 c a0 h
theorem TF116 (c : CF) (a0 : AV) (h : Heap) : (rk P0 c 20 c116).1 k116 [] k116 gK (argsTr gl 0 [a0]) h = F116 c a0 h := Eq.trans (congrFun (congrFun (seq_t (by kernel_rfl) (TS116_2 c) rfl) _) _) (by kernel_rfl)
noncomputable def N116 : FnF := n1 F116
theorem N116_ok : FnOk P0 gl 116 N116 := n1_ok namesOk mixedOrders lowOk Tryz.func116 (by kernel_rfl) (by kernel_rfl) (by kernel_rfl) TF116
noncomputable def c117 : Code := codeOf Tryz.f117
noncomputable def k117 : Kt := finK P0 Tryz.f117.results.toList
noncomputable def S117_0 (c : CF) (t5 : AV) (h : Heap) : Res := some (t5,h)
theorem TS117_0 (c : CF) : (rk P0 c 26 c117.s3).1 k117 [] k117 gK = L1 (S117_0 c) 5 := by funext s h; kernel_rfl
noncomputable def S117_2b (c : CF) (r1 : A5) (t0 t5 t11 t12 t13 : AV) (h : Heap) : Res := opt (fastBin .lss t13 t12) fun t14 => test t14 (opt (indexAddrS 9 t11 t13 h) fun t16 => opt (loadX (some 9) t16 h) fun t17 => opt2 (box (.agg [(iL 0),(iL 0),eL,cL,eL,eL,nL,nL,nL]) h) fun t7 h1 => optH (storeX 9 t7 t17 h1) fun h2 => opt (loadX (some 9) t7 h2) fun t21 => opt2 (c 24 [t0,t21] h2) fun t22 h3 => opt (indexAddrS 1 t5 t13 h3) fun t23 => optH (storeX 1 t23 t22 h3) fun h4 => opt (fastBin .add t13 (iL 1)) fun t24 => r1 t0 t5 t11 t12 t24 h4) (S117_0 c t5 h)
theorem TS117_2b (c : CF) (r1 : A5) : (rk P0 c 26 c117.s2.fst.snd.bd.bd).1 (L5 r1 0 5 11 12 13) [(0,(L1 (S117_0 c) 5))] k117 gK = L5 (S117_2b c r1) 0 5 11 12 13 := by funext s h; kernel_rfl
noncomputable def S117_1l (c : CF) : Nat → A5
  | 0 => fun _ _ _ _ _ _ => none
  | k + 1 => S117_2b c (S117_1l c k)
theorem TS117_1l (c : CF) : (rk P0 c 26 c117.s2.fst.snd.bd).1 (L1 (S117_0 c) 5) [(0,(L1 (S117_0 c) 5))] k117 gK = L5 (S117_1l c rounds) 0 5 11 12 13 := loop_t (by kernel_rfl) (loop_ind (A := fun m => L5 (S117_1l c m) 0 5 11 12 13) rfl (fun m => TS117_2b c (S117_1l c m)) rounds)
noncomputable def S117_3 (c : CF) (t0 t5 t11 t12 t13 : AV) (h : Heap) : Res := S117_1l c rounds t0 t5 t11 t12 t13 h
theorem TS117_3 (c : CF) : (rk P0 c 26 c117.s2.fst.snd).1 (L1 (S117_0 c) 5) [] k117 gK = L5 (S117_3 c) 0 5 11 12 13 := Eq.trans (block_t (id := 0) (by kernel_rfl) (TS117_1l c)) (by funext s h; kernel_rfl)
noncomputable def S117_4 (c : CF) (t0 t1 t5 : AV) (h : Heap) : Res := opt (lenS t1) fun t12 => S117_3 c t0 t5 t1 t12 (iL 0) h
theorem TS117_4 (c : CF) : (rk P0 c 26 c117.s2).1 k117 [] k117 gK = L3 (S117_4 c) 0 1 5 := Eq.trans (seq_t (by kernel_rfl) (TS117_0 c) (seq_t (by kernel_rfl) (TS117_3 c) rfl)) (by funext s h; kernel_rfl)
noncomputable def S117_5 (c : CF) (t0 t1 : AV) (h : Heap) : Res := opt (lenS t1) fun t9 => opt2 (mksliceX 1 eL 16 t9 t9 h) fun t10 h1 => S117_4 c t0 t1 t10 h1
theorem TS117_5 (c : CF) : (rk P0 c 26 c117.snd).1 k117 [] k117 gK = L2 (S117_5 c) 0 1 := Eq.trans (seq_t (by kernel_rfl) (TS117_4 c) rfl) (by funext s h; kernel_rfl)
noncomputable def F117 (c : CF) (a0 a1 : AV) (h : Heap) : Res := S117_5 c a0 a1 h
theorem TF117 (c : CF) (a0 a1 : AV) (h : Heap) : (rk P0 c 26 c117).1 k117 [] k117 gK (argsTr gl 0 [a0,a1]) h = F117 c a0 a1 h := Eq.trans (congrFun (congrFun (seq_t (by kernel_rfl) (TS117_5 c) rfl) _) _) (by kernel_rfl)
noncomputable def N117 : FnF := n2 F117
theorem N117_ok : FnOk P0 gl 117 N117 := n2_ok namesOk mixedOrders lowOk Tryz.func117 (by kernel_rfl) (by kernel_rfl) (by kernel_rfl) TF117
noncomputable def c118 : Code := codeOf Tryz.f118
noncomputable def k118 : Kt := finK P0 Tryz.f118.results.toList
noncomputable def S118_0 (c : CF) (t11 : AV) (h : Heap) : Res := some ((.tup [t11,(iL (-1))]),h)
theorem TS118_0 (c : CF) : (rk P0 c 120 c118.s8).1 k118 [] k118 gK = L1 (S118_0 c) 11 := by funext s h; kernel_rfl
noncomputable def S118_2b (c : CF) (r1 : A5) (t1 t6 t11 t104 t105 : AV) (h : Heap) : Res := opt (fastBin .lss t105 t104) fun t106 => test t106 (opt (indexAddrS 1 t1 t105 h) fun t110 => eqH h h (opt (loadX none t110 h) fun t111 => eqH h h (opt (indexAddrS 1 t6 t105 h) fun t114 => eqH h h (opt (loadX none t114 h) fun t115 => eqH h h (opt (fastBin .neq t111 t115) fun t116 => test t116 (some ((.tup [eL,t105]),h)) (opt (fastBin .add t105 (iL 1)) fun t118 => r1 t1 t6 t11 t104 t118 h)))))) (S118_0 c t11 h)
theorem TS118_2b (c : CF) (r1 : A5) : (rk P0 c 120 c118.s7.fst.snd.bd.bd).1 (L5 r1 1 6 11 104 105) [(3,(L1 (S118_0 c) 11))] k118 gK = L5 (S118_2b c r1) 1 6 11 104 105 := by funext s h; kernel_rfl
noncomputable def S118_1l (c : CF) : Nat → A5
  | 0 => fun _ _ _ _ _ _ => none
  | k + 1 => S118_2b c (S118_1l c k)
theorem TS118_1l (c : CF) : (rk P0 c 120 c118.s7.fst.snd.bd).1 (L1 (S118_0 c) 11) [(3,(L1 (S118_0 c) 11))] k118 gK = L5 (S118_1l c rounds) 1 6 11 104 105 := loop_t (by kernel_rfl) (loop_ind (A := fun m => L5 (S118_1l c m) 1 6 11 104 105) rfl (fun m => TS118_2b c (S118_1l c m)) rounds)
noncomputable def S118_3 (c : CF) (t1 t6 t11 t104 t105 : AV) (h : Heap) : Res := S118_1l c rounds t1 t6 t11 t104 t105 h
theorem TS118_3 (c : CF) : (rk P0 c 120 c118.s7.fst.snd).1 (L1 (S118_0 c) 11) [] k118 gK = L5 (S118_3 c) 1 6 11 104 105 := Eq.trans (block_t (id := 3) (by kernel_rfl) (TS118_1l c)) (by funext s h; kernel_rfl)
noncomputable def S118_4 (c : CF) (t1 t6 t11 : AV) (h : Heap) : Res := opt (lenS t1) fun t104 => S118_3 c t1 t6 t11 t104 (iL 0) h
theorem TS118_4 (c : CF) : (rk P0 c 120 c118.s7).1 k118 [] k118 gK = L3 (S118_4 c) 1 6 11 := Eq.trans (seq_t (by kernel_rfl) (TS118_0 c) (seq_t (by kernel_rfl) (TS118_3 c) rfl)) (by funext s h; kernel_rfl)
noncomputable def S118_5 (c : CF) (t1 t6 t11 : AV) (h : Heap) : Res := opt (indexAddrS 1 t1 (iL 0) h) fun t55 => eqH h h (opt (loadX none t55 h) fun t56 => eqH h h (opt (indexAddrS 1 t1 (iL 0) h) fun t58 => eqH h h (opt (loadX none t58 h) fun t59 => eqH h h (opt (indexAddrS 1 t6 (iL 0) h) fun t60 => eqH h h (optH (storeX 1 t60 t56 h) fun h1 => opt (indexAddrS 1 t6 (iL 1) h1) fun t61 => eqH h1 h1 (optH (storeX 1 t61 t59 h1) fun h2 => S118_4 c t1 t6 t11 h2))))))
theorem TS118_5 (c : CF) : (rk P0 c 120 c118.s6.fst.snd.bd.snd.thn.snd).1 (L3 (S118_4 c) 1 6 11) [(2,(L3 (S118_4 c) 1 6 11))] k118 gK = L3 (S118_5 c) 1 6 11 := by funext s h; kernel_rfl
noncomputable def S118_6 (c : CF) (t1 t6 t11 t51 : AV) (h : Heap) : Res := test t51 (some ((.tup [eL,(iL 0)]),h)) (S118_5 c t1 t6 t11 h)
theorem TS118_6 (c : CF) : (rk P0 c 120 c118.s6.fst.snd.bd.snd.thn.fst.snd).1 (L3 (S118_5 c) 1 6 11) [(2,(L3 (S118_4 c) 1 6 11))] k118 gK = L4 (S118_6 c) 1 6 11 51 := by funext s h; kernel_rfl
noncomputable def S118_7 (c : CF) (t1 t6 t11 : AV) (h : Heap) : Res := opt (indexAddrS 1 t1 (iL 0) h) fun t43 => opt (loadX none t43 h) fun t44 => opt (fastBin .neq t44 (sL [110,117,109])) fun t45 => test t45 (opt (indexAddrS 1 t1 (iL 0) h) fun t48 => opt (loadX none t48 h) fun t49 => opt (fastBin .neq t49 (sL [98,121,116,101,115])) fun t50 => S118_6 c t1 t6 t11 t50 h) (S118_6 c t1 t6 t11 fL h)
theorem TS118_7 (c : CF) : (rk P0 c 120 c118.s6.fst.snd.bd.snd.thn).1 (L3 (S118_4 c) 1 6 11) [(2,(L3 (S118_4 c) 1 6 11))] k118 gK = L3 (S118_7 c) 1 6 11 := Eq.trans (seq_t (by kernel_rfl) (TS118_5 c) (seq_t (by kernel_rfl) (TS118_6 c) rfl)) (by funext s h; kernel_rfl)
noncomputable def S118_8 (c : CF) (t1 t6 t8 t9 t10 t11 t39 t40 : AV) (h : Heap) : Res := test t40 (S118_7 c t1 t6 t11 h) (opt (fastBin .eql t39 (sL [99,97,116])) fun t63 => test t63 (opt (notX t10) fun t65 => test t65 (some ((.tup [eL,(iL 0)]),h)) (opt (indexAddrS 1 t1 (iL 0) h) fun t69 => eqH h h (opt (loadX none t69 h) fun t70 => eqH h h (opt (indexAddrS 1 t1 (iL 0) h) fun t72 => eqH h h (opt (loadX none t72 h) fun t73 => eqH h h (opt (indexAddrS 1 t1 (iL 0) h) fun t75 => eqH h h (opt (loadX none t75 h) fun t76 => eqH h h (opt (indexAddrS 1 t6 (iL 0) h) fun t77 => eqH h h (optH (storeX 1 t77 t70 h) fun h1 => opt (indexAddrS 1 t6 (iL 1) h1) fun t78 => eqH h1 h1 (optH (storeX 1 t78 t73 h1) fun h2 => S118_4 c t1 t6 t76 h2)))))))))) (opt (fastBin .eql t39 (sL [108,101,110])) fun t80 => test t80 (opt (notX t10) fun t82 => test t82 (some ((.tup [eL,(iL 0)]),h)) (opt (indexAddrS 1 t1 (iL 0) h) fun t85 => opt (loadX none t85 h) fun t86 => opt (indexAddrS 1 t6 (iL 0) h) fun t87 => optH (storeX 1 t87 t86 h) fun h3 => S118_4 c t1 t6 t11 h3)) (opt (fastBin .eql t39 (sL [97,116])) fun t89 => test t89 (opt (notX t10) fun t91 => test t91 (some ((.tup [eL,(iL 0)]),h)) (opt (indexAddrS 1 t1 (iL 0) h) fun t94 => opt (loadX none t94 h) fun t95 => opt (indexAddrS 1 t6 (iL 0) h) fun t96 => optH (storeX 1 t96 t95 h) fun h4 => test t9 (S118_4 c t1 t6 t8 h4) (S118_4 c t1 t6 t11 h4))) (opt (fastBin .eql t39 (sL [99,117,116])) fun t100 => test t100 (opt (indexAddrS 1 t6 (iL 0) h) fun t102 => optH (storeX 1 t102 (sL [98,121,116,101,115]) h) fun h5 => S118_4 c t1 t6 (sL [98,121,116,101,115]) h5) (S118_4 c t1 t6 t11 h)))))
theorem TS118_8 (c : CF) : (rk P0 c 120 c118.s6.fst.snd.bd.snd).1 (L3 (S118_4 c) 1 6 11) [(2,(L3 (S118_4 c) 1 6 11))] k118 gK = L8 (S118_8 c) 1 6 8 9 10 11 39 40 := Eq.trans (cond_t (by kernel_rfl) (TS118_7 c) rfl) (by funext s h; kernel_rfl)
noncomputable def S118_9 (c : CF) (t1 t6 t8 t9 t10 t11 t39 : AV) (h : Heap) : Res := opt (fastBin .eql t39 (sL [101,113])) fun t41 => S118_8 c t1 t6 t8 t9 t10 t11 t39 t41 h
theorem TS118_9 (c : CF) : (rk P0 c 120 c118.s6.fst.snd).1 (L3 (S118_4 c) 1 6 11) [] k118 gK = L7 (S118_9 c) 1 6 8 9 10 11 39 := Eq.trans (block_t (id := 2) (by kernel_rfl) (seq_t (by kernel_rfl) (TS118_8 c) rfl)) (by funext s h; kernel_rfl)
noncomputable def S118_10 (c : CF) (t0 t1 t6 t8 t9 t10 t11 : AV) (h : Heap) : Res := S118_9 c t1 t6 t8 t9 t10 t11 t0 h
theorem TS118_10 (c : CF) : (rk P0 c 120 c118.s6).1 k118 [] k118 gK = L7 (S118_10 c) 0 1 6 8 9 10 11 := Eq.trans (seq_t (by kernel_rfl) (TS118_4 c) (seq_t (by kernel_rfl) (TS118_9 c) rfl)) (by funext s h; kernel_rfl)
noncomputable def S118_11 (c : CF) (t0 t1 t6 t8 t9 t10 : AV) (h : Heap) : Res := S118_10 c t0 t1 t6 t8 t9 t10 (sL [110,117,109]) h
theorem TS118_11 (c : CF) : (rk P0 c 120 c118.s5).1 k118 [] k118 gK = L6 (S118_11 c) 0 1 6 8 9 10 := Eq.trans (seq_t (by kernel_rfl) (TS118_10 c) rfl) (by funext s h; kernel_rfl)
noncomputable def S118_12 (c : CF) (t0 t1 t6 t8 t9 : AV) (h : Heap) : Res := test t9 (S118_11 c t0 t1 t6 t8 t9 tL h) (opt (indexAddrS 1 t1 (iL 0) h) fun t35 => opt (loadX none t35 h) fun t36 => opt (fastBin .eql t36 (sL [98,121,116,101,115])) fun t37 => S118_11 c t0 t1 t6 t8 t9 t37 h)
theorem TS118_12 (c : CF) : (rk P0 c 120 c118.s4).1 k118 [] k118 gK = L5 (S118_12 c) 0 1 6 8 9 := Eq.trans (seq_t (by kernel_rfl) (TS118_11 c) rfl) (by funext s h; kernel_rfl)
noncomputable def S118_13 (c : CF) (t0 t1 t6 : AV) (h : Heap) : Res := opt (indexAddrS 1 t1 (iL 0) h) fun t27 => opt (loadX none t27 h) fun t28 => opt2 (c 172 [t28] h) fun t29 h1 => opt (extractX t29 0) fun t30 => opt (extractX t29 1) fun t31 => S118_12 c t0 t1 t6 t30 t31 h1
theorem TS118_13 (c : CF) : (rk P0 c 120 c118.s3).1 k118 [] k118 gK = L3 (S118_13 c) 0 1 6 := Eq.trans (seq_t (by kernel_rfl) (TS118_12 c) rfl) (by funext s h; kernel_rfl)
noncomputable def S118_15b (c : CF) (r14 : A5) (t0 t1 t6 t17 t18 : AV) (h : Heap) : Res := opt (fastBin .lss t18 t17) fun t19 => test t19 (opt (indexAddrS 1 t6 t18 h) fun t23 => optH (storeX 1 t23 (sL [110,117,109]) h) fun h1 => opt (fastBin .add t18 (iL 1)) fun t24 => r14 t0 t1 t6 t17 t24 h1) (S118_13 c t0 t1 t6 h)
theorem TS118_15b (c : CF) (r14 : A5) : (rk P0 c 120 c118.s2.fst.snd.bd.bd).1 (L5 r14 0 1 6 17 18) [(0,(L3 (S118_13 c) 0 1 6))] k118 gK = L5 (S118_15b c r14) 0 1 6 17 18 := by funext s h; kernel_rfl
noncomputable def S118_14l (c : CF) : Nat → A5
  | 0 => fun _ _ _ _ _ _ => none
  | k + 1 => S118_15b c (S118_14l c k)
theorem TS118_14l (c : CF) : (rk P0 c 120 c118.s2.fst.snd.bd).1 (L3 (S118_13 c) 0 1 6) [(0,(L3 (S118_13 c) 0 1 6))] k118 gK = L5 (S118_14l c rounds) 0 1 6 17 18 := loop_t (by kernel_rfl) (loop_ind (A := fun m => L5 (S118_14l c m) 0 1 6 17 18) rfl (fun m => TS118_15b c (S118_14l c m)) rounds)
noncomputable def S118_16 (c : CF) (t0 t1 t6 t17 t18 : AV) (h : Heap) : Res := S118_14l c rounds t0 t1 t6 t17 t18 h
theorem TS118_16 (c : CF) : (rk P0 c 120 c118.s2.fst.snd).1 (L3 (S118_13 c) 0 1 6) [] k118 gK = L5 (S118_16 c) 0 1 6 17 18 := Eq.trans (block_t (id := 0) (by kernel_rfl) (TS118_14l c)) (by funext s h; kernel_rfl)
noncomputable def S118_17 (c : CF) (t0 t1 t6 : AV) (h : Heap) : Res := opt (lenS t6) fun t17 => S118_16 c t0 t1 t6 t17 (iL 0) h
theorem TS118_17 (c : CF) : (rk P0 c 120 c118.s2).1 k118 [] k118 gK = L3 (S118_17 c) 0 1 6 := Eq.trans (seq_t (by kernel_rfl) (TS118_13 c) (seq_t (by kernel_rfl) (TS118_16 c) rfl)) (by funext s h; kernel_rfl)
noncomputable def S118_18 (c : CF) (t0 t1 : AV) (h : Heap) : Res := opt (lenS t1) fun t14 => opt2 (mksliceX 1 eL 16 t14 t14 h) fun t15 h1 => S118_17 c t0 t1 t15 h1
theorem TS118_18 (c : CF) : (rk P0 c 120 c118.snd).1 k118 [] k118 gK = L2 (S118_18 c) 0 1 := Eq.trans (seq_t (by kernel_rfl) (TS118_17 c) rfl) (by funext s h; kernel_rfl)
noncomputable def F118 (c : CF) (a0 a1 : AV) (h : Heap) : Res := S118_18 c a0 a1 h
theorem TF118 (c : CF) (a0 a1 : AV) (h : Heap) : (rk P0 c 120 c118).1 k118 [] k118 gK (argsTr gl 0 [a0,a1]) h = F118 c a0 a1 h := Eq.trans (congrFun (congrFun (seq_t (by kernel_rfl) (TS118_18 c) rfl) _) _) (by kernel_rfl)
noncomputable def N118 : FnF := n2 F118
theorem N118_ok : FnOk P0 gl 118 N118 := n2_ok namesOk mixedOrders lowOk Tryz.func118 (by kernel_rfl) (by kernel_rfl) (by kernel_rfl) TF118
noncomputable def c119 : Code := codeOf Tryz.f119
noncomputable def k119 : Kt := finK P0 Tryz.f119.results.toList
noncomputable def F119 (c : CF) (a0 a1 : AV) (h : Heap) : Res := opt2 (box (.agg [eL,nL]) h) fun t6 h1 => opt (nilCheckX a0) fun t12 => opt (fieldAddrX 1 t12) fun t13 => opt (loadX none t13 h1) fun t14 => opt (lookupX .str (.agg [eL,(iL 0),eL,nL]) t14 a1 true h1) fun t16 => opt (extractX t16 0) fun t17 => opt (extractX t16 1) fun t18 => opt2 (box (.agg [eL,(iL 0),eL,nL]) h1) fun t8 h2 => optH (storeX 4 t8 t17 h2) fun h3 => opt (notX t18) fun t20 => test t20 (opt (buildX [eL,nL] [(0,1),(1,1)] []) fun t21 => optH (storeX 2 t6 t21 h3) fun h4 => opt (loadX (some 2) t6 h4) fun res => some ((.tup [eL,(iL 0),res,fL]),h4)) (opt (fieldAddrX 0 t8) fun t22 => opt (loadX none t22 h3) fun t23 => eqH h3 h3 (opt (fieldAddrX 1 t8) fun t24 => opt (loadX none t24 h3) fun t25 => eqH h3 h3 (opt (fieldAddrX 2 t8) fun t26 => opt (loadX (some 2) t26 h3) fun t27 => eqH h3 h3 (opt2 (bsliceX 2 (.agg [eL,nL]) 1 [(0,t27)] h3) fun t28 h5 => opt (loadX none t24 h5) fun t25_1 => eqK t25_1 t25 (eqH h5 h5 (opt (loadX none t22 h5) fun t23_1 => eqK t23_1 t23 (eqH h5 h5 (opt2 (c 173 [t28] h5) fun t29 h6 => opt (loadX none t24 h6) fun t25_2 => eqK t25_2 t25 (eqH h6 h6 (opt (loadX none t22 h6) fun t23_2 => eqK t23_2 t23 (eqH h6 h6 (opt (indexAddrS 2 t29 (iL 0) h6) fun t30 => eqH h6 h6 (opt (loadX (some 2) t30 h6) fun t31 => eqH h6 h6 (optH (storeX 2 t6 t31 h6) fun h7 => opt (loadX (some 2) t6 h7) fun res_1 => some ((.tup [t23,t25,res_1,tL]),h7)))))))))))))))
theorem TF119 (c : CF) (a0 a1 : AV) (h : Heap) : (rk P0 c 32 c119).1 k119 [] k119 gK (argsTr gl 0 [a0,a1]) h = F119 c a0 a1 h := by kernel_rfl
noncomputable def N119 : FnF := n2 F119
theorem N119_ok : FnOk P0 gl 119 N119 := n2_ok namesOk mixedOrders lowOk Tryz.func119 (by kernel_rfl) (by kernel_rfl) (by kernel_rfl) TF119
noncomputable def c120 : Code := codeOf Tryz.f120
noncomputable def k120 : Kt := finK P0 Tryz.f120.results.toList
noncomputable def S120_1b (c : CF) (r0 : A6) (t0 t2 t3 t10 t11 t12 : AV) (h : Heap) : Res := opt (fastBin .lss t12 t11) fun t13 => test t13 (opt (indexAddrS 9 t10 t12 h) fun t15 => opt (loadX (some 9) t15 h) fun t16 => opt2 (box (.agg [(iL 0),(iL 0),eL,cL,eL,eL,nL,nL,nL]) h) fun t9 h1 => optH (storeX 9 t9 t16 h1) fun h2 => opt (indexAddrS 1 t2 t12 h2) fun t20 => eqH h2 h2 (opt (loadX none t20 h2) fun t21 => eqH h2 h2 (opt (indexAddrS 1 t3 t12 h2) fun t24 => eqH h2 h2 (opt (loadX none t24 h2) fun t25 => eqH h2 h2 (opt (fastBin .eql t21 t25) fun t26 => opt (loadX (some 9) t9 h2) fun t27 => eqH h2 h2 (opt2 (c 64 [t0,t26,(iL 17),t27] h2) fun t28 h3 => opt (fastBin .add t12 (iL 1)) fun t29 => r0 t0 t2 t3 t10 t11 t29 h3)))))) (some ((.lit (.tuple #[])),h))
theorem TS120_1b (c : CF) (r0 : A6) : (rk P0 c 30 c120.snd.bd.bd).1 (L6 r0 0 2 3 10 11 12) [(0,k120)] k120 gK = L6 (S120_1b c r0) 0 2 3 10 11 12 := by funext s h; kernel_rfl
noncomputable def S120_0l (c : CF) : Nat → A6
  | 0 => fun _ _ _ _ _ _ _ => none
  | k + 1 => S120_1b c (S120_0l c k)
theorem TS120_0l (c : CF) : (rk P0 c 30 c120.snd.bd).1 k120 [(0,k120)] k120 gK = L6 (S120_0l c rounds) 0 2 3 10 11 12 := loop_t (by kernel_rfl) (loop_ind (A := fun m => L6 (S120_0l c m) 0 2 3 10 11 12) rfl (fun m => TS120_1b c (S120_0l c m)) rounds)
noncomputable def S120_2 (c : CF) (t0 t2 t3 t10 t11 t12 : AV) (h : Heap) : Res := S120_0l c rounds t0 t2 t3 t10 t11 t12 h
theorem TS120_2 (c : CF) : (rk P0 c 30 c120.snd).1 k120 [] k120 gK = L6 (S120_2 c) 0 2 3 10 11 12 := Eq.trans (block_t (id := 0) (by kernel_rfl) (TS120_0l c)) (by funext s h; kernel_rfl)
noncomputable def F120 (c : CF) (a0 a1 a2 a3 : AV) (h : Heap) : Res := opt (lenS a1) fun t11 => S120_2 c a0 a2 a3 a1 t11 (iL 0) h
theorem TF120 (c : CF) (a0 a1 a2 a3 : AV) (h : Heap) : (rk P0 c 30 c120).1 k120 [] k120 gK (argsTr gl 0 [a0,a1,a2,a3]) h = F120 c a0 a1 a2 a3 h := Eq.trans (congrFun (congrFun (seq_t (by kernel_rfl) (TS120_2 c) rfl) _) _) (by kernel_rfl)
noncomputable def N120 : FnF := n4 F120
theorem N120_ok : FnOk P0 gl 120 N120 := n4_ok namesOk mixedOrders lowOk Tryz.func120 (by kernel_rfl) (by kernel_rfl) (by kernel_rfl) TF120
noncomputable def c121 : Code := codeOf Tryz.f121
noncomputable def k121 : Kt := finK P0 Tryz.f121.results.toList
noncomputable def F121 (c : CF) (a0 a1 : AV) (h : Heap) : Res := opt2 (box (.agg [(iL 0),eL,eL,nL]) h) fun t4 h1 => opt (nilCheckX a0) fun t10 => opt (fieldAddrX 0 t10) fun t11 => opt (loadX none t11 h1) fun t12 => opt (lookupX .str (.agg [(iL 0),eL,eL,nL]) t12 a1 true h1) fun t14 => opt (extractX t14 0) fun t15 => opt (extractX t14 1) fun t16 => opt2 (box (.agg [(iL 0),eL,eL,nL]) h1) fun t6 h2 => optH (storeX 4 t6 t15 h2) fun h3 => opt (loadX (some 4) t6 h3) fun t17 => optH (storeX 4 t4 t17 h3) fun h4 => opt (loadX (some 4) t4 h4) fun res => some ((.tup [res,t16]),h4)
theorem TF121 (c : CF) (a0 a1 : AV) (h : Heap) : (rk P0 c 19 c121).1 k121 [] k121 gK (argsTr gl 0 [a0,a1]) h = F121 c a0 a1 h := by kernel_rfl
noncomputable def N121 : FnF := n2 F121
theorem N121_ok : FnOk P0 gl 121 N121 := n2_ok namesOk mixedOrders lowOk Tryz.func121 (by kernel_rfl) (by kernel_rfl) (by kernel_rfl) TF121
noncomputable def c122 : Code := codeOf Tryz.f122
noncomputable def k122 : Kt := finK P0 Tryz.f122.results.toList
noncomputable def S122_0 (c : CF) (t0 : AV) (h : Heap) : Res := opt2 (c 174 [t0] h) fun t17 h1 => opt (extractX t17 0) fun t18 => opt (extractX t17 1) fun t19 => opt2 (c 107 [t18] h1) fun t21 h2 => opt (fastCut t0 (some t19) none none) fun t24 => eqH h1 h1 (opt (fastCut t0 (some t19) none none) fun t24_1 => eqK t24_1 t24 (eqH h2 h2 (some ((.tup [t21,t24,tL]),h2))))
theorem TS122_0 (c : CF) : (rk P0 c 25 c122.s2).1 k122 [] k122 gK = L1 (S122_0 c) 0 := by funext s h; kernel_rfl
noncomputable def S122_1 (c : CF) (t0 t14 : AV) (h : Heap) : Res := test t14 (some ((.tup [nL,eL,fL]),h)) (S122_0 c t0 h)
theorem TS122_1 (c : CF) : (rk P0 c 25 c122.snd.fst.snd).1 (L1 (S122_0 c) 0) [] k122 gK = L2 (S122_1 c) 0 14 := by funext s h; kernel_rfl
noncomputable def S122_2 (c : CF) (t0 : AV) (h : Heap) : Res := opt2 (c 78 [t0] h) fun t8 h1 => opt (notX t8) fun t9 => test t9 (S122_1 c t0 tL h1) (opt (fastIndex t0 (iL 0)) fun t12 => opt (fastBin .neq t12 (uL 40)) fun t13 => S122_1 c t0 t13 h1)
theorem TS122_2 (c : CF) : (rk P0 c 25 c122.snd).1 k122 [] k122 gK = L1 (S122_2 c) 0 := Eq.trans (seq_t (by kernel_rfl) (TS122_0 c) (seq_t (by kernel_rfl) (TS122_1 c) rfl)) (by funext s h; kernel_rfl)
noncomputable def F122 (c : CF) (a0 : AV) (h : Heap) : Res := S122_2 c a0 h
theorem TF122 (c : CF) (a0 : AV) (h : Heap) : (rk P0 c 25 c122).1 k122 [] k122 gK (argsTr gl 0 [a0]) h = F122 c a0 h := Eq.trans (congrFun (congrFun (seq_t (by kernel_rfl) (TS122_2 c) rfl) _) _) (by kernel_rfl)
noncomputable def N122 : FnF := n1 F122
theorem N122_ok : FnOk P0 gl 122 N122 := n1_ok namesOk mixedOrders lowOk Tryz.func122 (by kernel_rfl) (by kernel_rfl) (by kernel_rfl) TF122
noncomputable def c123 : Code := codeOf Tryz.f123
noncomputable def k123 : Kt := finK P0 Tryz.f123.results.toList
noncomputable def S123_0 (c : CF) (t7 : AV) (h : Heap) : Res := some (t7,h)
theorem TS123_0 (c : CF) : (rk P0 c 48 c123.s7).1 k123 [] k123 gK = L1 (S123_0 c) 7 := by funext s h; kernel_rfl
noncomputable def S123_2b (c : CF) (r1 : A2) (t7 t8 : AV) (h : Heap) : Res := opt (lenS t7) fun t36 => opt (fastBin .lss t8 t36) fun t37 => test t37 (opt (cutZ 1 t7 (some t8) none none h) fun t41 => eqH h h (opt (cutZ 1 t7 none (some t8) none h) fun t44 => eqH h h (opt2 (copyX 1 t41 t44 h) fun t45 h1 => opt (fastBin .add t8 t45) fun t46 => r1 t7 t46 h1))) (S123_0 c t7 h)
theorem TS123_2b (c : CF) (r1 : A2) : (rk P0 c 48 c123.s6.fst.bd.bd).1 (L2 r1 7 8) [(0,(L1 (S123_0 c) 7))] k123 gK = L2 (S123_2b c r1) 7 8 := by funext s h; kernel_rfl
noncomputable def S123_1l (c : CF) : Nat → A2
  | 0 => fun _ _ _ => none
  | k + 1 => S123_2b c (S123_1l c k)
theorem TS123_1l (c : CF) : (rk P0 c 48 c123.s6.fst.bd).1 (L1 (S123_0 c) 7) [(0,(L1 (S123_0 c) 7))] k123 gK = L2 (S123_1l c rounds) 7 8 := loop_t (by kernel_rfl) (loop_ind (A := fun m => L2 (S123_1l c m) 7 8) rfl (fun m => TS123_2b c (S123_1l c m)) rounds)
noncomputable def S123_3 (c : CF) (t7 t8 : AV) (h : Heap) : Res := S123_1l c rounds t7 t8 h
theorem TS123_3 (c : CF) : (rk P0 c 48 c123.s6).1 k123 [] k123 gK = L2 (S123_3 c) 7 8 := Eq.trans (seq_t (by kernel_rfl) (TS123_0 c) (block_t (id := 0) (by kernel_rfl) (TS123_1l c))) (by funext s h; kernel_rfl)
noncomputable def S123_4 (c : CF) (t0 t7 : AV) (h : Heap) : Res := opt2 (copyX 1 t7 t0 h) fun t33 h1 => S123_3 c t7 t33 h1
theorem TS123_4 (c : CF) : (rk P0 c 48 c123.s5).1 k123 [] k123 gK = L2 (S123_4 c) 0 7 := Eq.trans (seq_t (by kernel_rfl) (TS123_3 c) rfl) (by funext s h; kernel_rfl)
noncomputable def S123_5 (c : CF) (t0 t6 : AV) (h : Heap) : Res := opt (convI .i64 t6) fun t29 => opt2 (mksliceX 1 eL 16 t29 t29 h) fun t30 h1 => S123_4 c t0 t30 h1
theorem TS123_5 (c : CF) : (rk P0 c 48 c123.s4).1 k123 [] k123 gK = L2 (S123_5 c) 0 6 := Eq.trans (seq_t (by kernel_rfl) (TS123_4 c) rfl) (by funext s h; kernel_rfl)
noncomputable def S123_6 (c : CF) (t0 t6 t26 : AV) (h : Heap) : Res := test t26 (none) (S123_5 c t0 t6 h)
theorem TS123_6 (c : CF) : (rk P0 c 48 c123.s3.fst.snd).1 (L2 (S123_5 c) 0 6) [] k123 gK = L3 (S123_6 c) 0 6 26 := by funext s h; kernel_rfl
noncomputable def S123_7 (c : CF) (t0 t5 t6 : AV) (h : Heap) : Res := opt (fastBin .gtr t5 (.lit (.int .u64 0))) fun t22 => test t22 (S123_6 c t0 t6 tL h) (opt (fastBin .gtr t6 (.lit (.int .u64 9223372036854775807))) fun t25 => S123_6 c t0 t6 t25 h)
theorem TS123_7 (c : CF) : (rk P0 c 48 c123.s3).1 k123 [] k123 gK = L3 (S123_7 c) 0 5 6 := Eq.trans (seq_t (by kernel_rfl) (TS123_5 c) (seq_t (by kernel_rfl) (TS123_6 c) rfl)) (by funext s h; kernel_rfl)
noncomputable def S123_8 (c : CF) (t0 t1 : AV) (h : Heap) : Res := opt (lenS t0) fun t14 => opt (convI .u64 t14) fun t15 => opt (convI .u64 t1) fun t17 => opt2 (c 175 [t15,t17] h) fun t18 h1 => opt (extractX t18 0) fun t19 => opt (extractX t18 1) fun t20 => S123_7 c t0 t19 t20 h1
theorem TS123_8 (c : CF) : (rk P0 c 48 c123.s2).1 k123 [] k123 gK = L2 (S123_8 c) 0 1 := Eq.trans (seq_t (by kernel_rfl) (TS123_7 c) rfl) (by funext s h; kernel_rfl)
noncomputable def S123_9 (c : CF) (t0 t1 : AV) (h : Heap) : Res := opt (fastBin .lss t1 (iL 0)) fun t10 => test t10 (none) (S123_8 c t0 t1 h)
theorem TS123_9 (c : CF) : (rk P0 c 48 c123.snd).1 k123 [] k123 gK = L2 (S123_9 c) 0 1 := Eq.trans (seq_t (by kernel_rfl) (TS123_8 c) rfl) (by funext s h; kernel_rfl)
noncomputable def F123 (c : CF) (a0 a1 : AV) (h : Heap) : Res := S123_9 c a0 a1 h
theorem TF123 (c : CF) (a0 a1 : AV) (h : Heap) : (rk P0 c 48 c123).1 k123 [] k123 gK (argsTr gl 0 [a0,a1]) h = F123 c a0 a1 h := Eq.trans (congrFun (congrFun (seq_t (by kernel_rfl) (TS123_9 c) rfl) _) _) (by kernel_rfl)
noncomputable def N123 : FnF := n2 F123
theorem N123_ok : FnOk P0 gl 123 N123 := n2_ok namesOk mixedOrders lowOk Tryz.func123 (by kernel_rfl) (by kernel_rfl) (by kernel_rfl) TF123
noncomputable def c124 : Code := codeOf Tryz.f124
noncomputable def k124 : Kt := finK P0 Tryz.f124.results.toList
noncomputable def F124 (c : CF) (a0 : AV) (h : Heap) : Res := opt (fastBin .add (sL [91]) a0) fun t4 => opt (fastBin .add t4 (sL [93])) fun t5 => some (t5,h)
theorem TF124 (c : CF) (a0 : AV) (h : Heap) : (rk P0 c 6 c124).1 k124 [] k124 gK (argsTr gl 0 [a0]) h = F124 c a0 h := by kernel_rfl
noncomputable def N124 : FnF := n1 F124
theorem N124_ok : FnOk P0 gl 124 N124 := n1_ok namesOk mixedOrders lowOk Tryz.func124 (by kernel_rfl) (by kernel_rfl) (by kernel_rfl) TF124
noncomputable def c125 : Code := codeOf Tryz.f125
noncomputable def k125 : Kt := finK P0 Tryz.f125.results.toList
noncomputable def F125 (c : CF) (a0 a1 : AV) (h : Heap) : Res := opt (nilCheckX a0) fun t10 => opt (fieldAddrX 2 t10) fun t11 => opt (loadX none t11 h) fun t12 => opt (lookupX .str nL t12 a1 true h) fun t14 => opt (extractX t14 0) fun t15 => opt (extractX t14 1) fun t16 => opt2 (c 173 [t15] h) fun t18 h1 => some ((.tup [t18,t16]),h1)
theorem TF125 (c : CF) (a0 a1 : AV) (h : Heap) : (rk P0 c 20 c125).1 k125 [] k125 gK (argsTr gl 0 [a0,a1]) h = F125 c a0 a1 h := by kernel_rfl
noncomputable def N125 : FnF := n2 F125
theorem N125_ok : FnOk P0 gl 125 N125 := n2_ok namesOk mixedOrders lowOk Tryz.func125 (by kernel_rfl) (by kernel_rfl) (by kernel_rfl) TF125
noncomputable def c126 : Code := codeOf Tryz.f126
noncomputable def k126 : Kt := finK P0 Tryz.f126.results.toList
noncomputable def F126 (c : CF) (a0 a1 : AV) (h : Heap) : Res := opt2 (c 176 [a0,a1] h) fun t7 h1 => opt (fastBin .geq t7 (iL 0)) fun t8 => some (t8,h1)
theorem TF126 (c : CF) (a0 a1 : AV) (h : Heap) : (rk P0 c 9 c126).1 k126 [] k126 gK (argsTr gl 0 [a0,a1]) h = F126 c a0 a1 h := by kernel_rfl
noncomputable def N126 : FnF := n2 F126
theorem N126_ok : FnOk P0 gl 126 N126 := n2_ok namesOk mixedOrders lowOk Tryz.func126 (by kernel_rfl) (by kernel_rfl) (by kernel_rfl) TF126
noncomputable def c133 : Code := codeOf Tryz.f133
noncomputable def k133 : Kt := finK P0 Tryz.f133.results.toList
noncomputable def S133_0 (c : CF) (t0 : AV) (h : Heap) : Res := opt (fastBin .neq t0 eL) fun t34 => test t34 (opt (lenStr t0) fun t37 => opt (fastBin .leq t37 (iL 24)) fun t38 => some (t38,h)) (some (fL,h))
theorem TS133_0 (c : CF) : (rk P0 c 40 c133.s2).1 k133 [] k133 gK = L1 (S133_0 c) 0 := by funext s h; kernel_rfl
noncomputable def S133_2b (c : CF) (r1 : A3) (t0 t6 t7 : AV) (h : Heap) : Res := opt (fastBin .lss t7 t6) fun t8 => test t8 (opt (fastIndex t0 t7) fun t12 => opt2 (c 178 [t12] h) fun t14 h1 => opt (notX t14) fun t15 => test t15 (opt (fastBin .neq t12 (uL 95)) fun t18 => test t18 (opt (fastBin .eql t7 (iL 0)) fun t22 => test t22 (some (fL,h1)) (opt (fastBin .lss t12 (uL 48)) fun t25 => test t25 (some (fL,h1)) (opt (fastBin .gtr t12 (uL 57)) fun t29 => test t29 (some (fL,h1)) (opt (fastBin .add t7 (iL 1)) fun t32 => r1 t0 t6 t32 h1)))) (opt (fastBin .add t7 (iL 1)) fun t32_1 => r1 t0 t6 t32_1 h1)) (opt (fastBin .add t7 (iL 1)) fun t32_2 => r1 t0 t6 t32_2 h1)) (S133_0 c t0 h)
theorem TS133_2b (c : CF) (r1 : A3) : (rk P0 c 40 c133.snd.fst.snd.bd.bd).1 (L3 r1 0 6 7) [(0,(L1 (S133_0 c) 0))] k133 gK = L3 (S133_2b c r1) 0 6 7 := by funext s h; kernel_rfl
noncomputable def S133_1l (c : CF) : Nat → A3
  | 0 => fun _ _ _ _ => none
  | k + 1 => S133_2b c (S133_1l c k)
theorem TS133_1l (c : CF) : (rk P0 c 40 c133.snd.fst.snd.bd).1 (L1 (S133_0 c) 0) [(0,(L1 (S133_0 c) 0))] k133 gK = L3 (S133_1l c rounds) 0 6 7 := loop_t (by kernel_rfl) (loop_ind (A := fun m => L3 (S133_1l c m) 0 6 7) rfl (fun m => TS133_2b c (S133_1l c m)) rounds)
noncomputable def S133_3 (c : CF) (t0 t6 t7 : AV) (h : Heap) : Res := S133_1l c rounds t0 t6 t7 h
theorem TS133_3 (c : CF) : (rk P0 c 40 c133.snd.fst.snd).1 (L1 (S133_0 c) 0) [] k133 gK = L3 (S133_3 c) 0 6 7 := Eq.trans (block_t (id := 0) (by kernel_rfl) (TS133_1l c)) (by funext s h; kernel_rfl)
noncomputable def S133_4 (c : CF) (t0 : AV) (h : Heap) : Res := opt (lenStr t0) fun t6 => S133_3 c t0 t6 (iL 0) h
theorem TS133_4 (c : CF) : (rk P0 c 40 c133.snd).1 k133 [] k133 gK = L1 (S133_4 c) 0 := Eq.trans (seq_t (by kernel_rfl) (TS133_0 c) (seq_t (by kernel_rfl) (TS133_3 c) rfl)) (by funext s h; kernel_rfl)
noncomputable def F133 (c : CF) (a0 : AV) (h : Heap) : Res := S133_4 c a0 h
theorem TF133 (c : CF) (a0 : AV) (h : Heap) : (rk P0 c 40 c133).1 k133 [] k133 gK (argsTr gl 0 [a0]) h = F133 c a0 h := Eq.trans (congrFun (congrFun (seq_t (by kernel_rfl) (TS133_4 c) rfl) _) _) (by kernel_rfl)
noncomputable def N133 : FnF := n1 F133
theorem N133_ok : FnOk P0 gl 133 N133 := n1_ok namesOk mixedOrders lowOk Tryz.func133 (by kernel_rfl) (by kernel_rfl) (by kernel_rfl) TF133
noncomputable def c134 : Code := codeOf Tryz.f134
noncomputable def k134 : Kt := finK P0 Tryz.f134.results.toList
noncomputable def S134_1 (c : CF) (r0 : Nat → A3) (t0 t3 t4 : AV) (h : Heap) : Res := opt (fastBin .add t3 (iL 1)) fun t103 => opt (fastBin .sub t4 (iL 1)) fun t105 => r0 0 t0 t103 t105 h
theorem TS134_1 (c : CF) (r0 : Nat → A3) : (rk P0 c 107 (c134.snd.bd.at_ 0).snd.fst.snd.thn.snd).1 ((rk P0 c 107 (c134.snd.bd.at_ 0).s2).1 k134 [] k134 (fun l s h => r0 l (s.rd 0) (s.rd 3) (s.rd 4) h)) [] k134 (fun l s h => r0 l (s.rd 0) (s.rd 3) (s.rd 4) h) = L3 (S134_1 c r0) 0 3 4 := by funext s h; kernel_rfl
noncomputable def S134_2 (c : CF) (r0 : Nat → A3) (t0 t3 t4 : AV) (h : Heap) : Res := opt (lenStr t0) fun t94 => opt (fastBin .geq t3 t94) fun t95 => test t95 (some ((iL 0),h)) (opt (fastIndex t0 t3) fun t99 => opt (fastBin .neq t99 (uL 93)) fun t100 => test t100 (some ((iL 0),h)) (S134_1 c r0 t0 t3 t4 h))
theorem TS134_2 (c : CF) (r0 : Nat → A3) : (rk P0 c 107 (c134.snd.bd.at_ 0).snd.fst.snd.thn).1 ((rk P0 c 107 (c134.snd.bd.at_ 0).s2).1 k134 [] k134 (fun l s h => r0 l (s.rd 0) (s.rd 3) (s.rd 4) h)) [] k134 (fun l s h => r0 l (s.rd 0) (s.rd 3) (s.rd 4) h) = L3 (S134_2 c r0) 0 3 4 := Eq.trans (seq_t (by kernel_rfl) (TS134_1 c r0) rfl) (by funext s h; kernel_rfl)
noncomputable def S134_3 (c : CF) (r0 : Nat → A3) (t0 t3 t4 t91 : AV) (h : Heap) : Res := test t91 (S134_2 c r0 t0 t3 t4 h) (some (t3,h))
theorem TS134_3 (c : CF) (r0 : Nat → A3) : (rk P0 c 107 (c134.snd.bd.at_ 0).snd.fst.snd).1 ((rk P0 c 107 (c134.snd.bd.at_ 0).s2).1 k134 [] k134 (fun l s h => r0 l (s.rd 0) (s.rd 3) (s.rd 4) h)) [] k134 (fun l s h => r0 l (s.rd 0) (s.rd 3) (s.rd 4) h) = L4 (S134_3 c r0) 0 3 4 91 := Eq.trans (cond_t (by kernel_rfl) (TS134_2 c r0) rfl) (by funext s h; kernel_rfl)
noncomputable def S134_4 (c : CF) (r0 : Nat → A3) (t0 t3 t4 : AV) (h : Heap) : Res := opt (fastBin .gtr t4 (iL 0)) fun t91 => S134_3 c r0 t0 t3 t4 t91 h
theorem TS134_4 (c : CF) (r0 : Nat → A3) : (rk P0 c 107 (c134.snd.bd.at_ 0).snd).1 k134 [] k134 (fun l s h => r0 l (s.rd 0) (s.rd 3) (s.rd 4) h) = L3 (S134_4 c r0) 0 3 4 := Eq.trans (seq_t (by kernel_rfl) rfl (seq_t (by kernel_rfl) (TS134_3 c r0) rfl)) (by funext s h; kernel_rfl)
noncomputable def S134_5L0_ (c : CF) (r0 : Nat → A3) (t0 t3 t4 : AV) (h : Heap) : Res := S134_4 c r0 t0 t3 t4 h
theorem TS134_5L0_ (c : CF) (r0 : Nat → A3) : (rk P0 c 107 (c134.snd.bd.at_ 0)).1 k134 [] k134 (fun l s h => r0 l (s.rd 0) (s.rd 3) (s.rd 4) h) = L3 (S134_5L0_ c r0) 0 3 4 := Eq.trans (seq_t (by kernel_rfl) (TS134_4 c r0) rfl) (by funext s h; kernel_rfl)
noncomputable def S134_0g (c : CF) : Nat → Nat → A3
  | 0 => fun _ _ _ _ _ => none
  | k + 1 => fun l => match l with
    | 0 => S134_5L0_ c (S134_0g c k)
    | _ => fun _ _ _ _ => none
theorem TS134_0g (c : CF) : jumpK (fun l kg' => match (rk P0 c 107 c134.snd.bd).2 l with | some f => some (f k134 [] k134 kg') | none => none) gK rounds = fun l s h => S134_0g c rounds l (s.rd 0) (s.rd 3) (s.rd 4) h := jump_ind (J := fun m => fun l s h => S134_0g c m l (s.rd 0) (s.rd 3) (s.rd 4) h) rfl (fun m l => match l with
    | 0 => by rw [show findLabel c134.snd.bd 0 = some (c134.snd.bd.at_ 0) by kernel_rfl]; exact TS134_5L0_ c (S134_0g c m)
    | l + 1 => by rw [show findLabel c134.snd.bd (l + 1) = none by kernel_rfl]; rfl) rounds
noncomputable def S134_6 (c : CF) (t0 t3 t4 : AV) (h : Heap) : Res := opt (fastBin .add t3 (iL 1)) fun t103 => opt (fastBin .sub t4 (iL 1)) fun t105 => S134_0g c rounds 0 t0 t103 t105 h
theorem TS134_6 (c : CF) : (rk P0 c 107 c134.snd.bd.s6.fst.snd.thn.snd).1 ((rk P0 c 107 c134.snd.bd.s7).1 k134 [] k134 (fun l s h => S134_0g c rounds l (s.rd 0) (s.rd 3) (s.rd 4) h)) [] k134 (fun l s h => S134_0g c rounds l (s.rd 0) (s.rd 3) (s.rd 4) h) = L3 (S134_6 c) 0 3 4 := by funext s h; kernel_rfl
noncomputable def S134_7 (c : CF) (t0 t3 t4 : AV) (h : Heap) : Res := opt (lenStr t0) fun t94 => opt (fastBin .geq t3 t94) fun t95 => test t95 (some ((iL 0),h)) (opt (fastIndex t0 t3) fun t99 => opt (fastBin .neq t99 (uL 93)) fun t100 => test t100 (some ((iL 0),h)) (S134_6 c t0 t3 t4 h))
theorem TS134_7 (c : CF) : (rk P0 c 107 c134.snd.bd.s6.fst.snd.thn).1 ((rk P0 c 107 c134.snd.bd.s7).1 k134 [] k134 (fun l s h => S134_0g c rounds l (s.rd 0) (s.rd 3) (s.rd 4) h)) [] k134 (fun l s h => S134_0g c rounds l (s.rd 0) (s.rd 3) (s.rd 4) h) = L3 (S134_7 c) 0 3 4 := Eq.trans (seq_t (by kernel_rfl) (TS134_6 c) rfl) (by funext s h; kernel_rfl)
noncomputable def S134_8 (c : CF) (t0 t3 t4 t91 : AV) (h : Heap) : Res := test t91 (S134_7 c t0 t3 t4 h) (some (t3,h))
theorem TS134_8 (c : CF) : (rk P0 c 107 c134.snd.bd.s6.fst.snd).1 ((rk P0 c 107 c134.snd.bd.s7).1 k134 [] k134 (fun l s h => S134_0g c rounds l (s.rd 0) (s.rd 3) (s.rd 4) h)) [] k134 (fun l s h => S134_0g c rounds l (s.rd 0) (s.rd 3) (s.rd 4) h) = L4 (S134_8 c) 0 3 4 91 := Eq.trans (cond_t (by kernel_rfl) (TS134_7 c) rfl) (by funext s h; kernel_rfl)
noncomputable def S134_9 (c : CF) (t0 t3 t4 : AV) (h : Heap) : Res := opt (fastBin .gtr t4 (iL 0)) fun t91 => S134_8 c t0 t3 t4 t91 h
theorem TS134_9 (c : CF) : (rk P0 c 107 c134.snd.bd.s6).1 k134 [] k134 (fun l s h => S134_0g c rounds l (s.rd 0) (s.rd 3) (s.rd 4) h) = L3 (S134_9 c) 0 3 4 := Eq.trans (seq_t (by kernel_rfl) rfl (seq_t (by kernel_rfl) (TS134_8 c) rfl)) (by funext s h; kernel_rfl)
noncomputable def S134_10 (c : CF) (t0 t3 t4 : AV) (h : Heap) : Res := S134_9 c t0 t3 t4 h
theorem TS134_10 (c : CF) : (rk P0 c 107 c134.snd.bd.s5).1 k134 [] k134 (fun l s h => S134_0g c rounds l (s.rd 0) (s.rd 3) (s.rd 4) h) = L3 (S134_10 c) 0 3 4 := Eq.trans (seq_t (by kernel_rfl) (TS134_9 c) rfl) (by funext s h; kernel_rfl)
noncomputable def S134_11 (c : CF) (t0 t3 t4 t8 : AV) (h : Heap) : Res := opt (fastBin .add t3 t8) fun t89 => S134_10 c t0 t89 t4 h
theorem TS134_11 (c : CF) : (rk P0 c 107 c134.snd.bd.s4.fst.s4).1 (L3 (S134_10 c) 0 3 4) [] k134 (fun l s h => S134_0g c rounds l (s.rd 0) (s.rd 3) (s.rd 4) h) = L4 (S134_11 c) 0 3 4 8 := by funext s h; kernel_rfl
noncomputable def S134_12 (c : CF) (t0 t3 t4 t8 t9 : AV) (h : Heap) : Res := opt2 (c 180 [t9] h) fun t76 h1 => opt (extractX t76 0) fun t77 => opt (extractX t76 1) fun t78 => opt (extractX t76 2) fun t79 => opt (notX t79) fun t81 => test t81 (opt2 (c 181 [t9] h1) fun t84 h2 => opt (notX t84) fun t85 => test t85 (some ((iL 0),h2)) (S134_11 c t0 t3 t4 t8 h2)) (S134_11 c t0 t3 t4 t8 h1)
theorem TS134_12 (c : CF) : (rk P0 c 107 c134.snd.bd.s4.fst.s3).1 (L3 (S134_10 c) 0 3 4) [] k134 (fun l s h => S134_0g c rounds l (s.rd 0) (s.rd 3) (s.rd 4) h) = L5 (S134_12 c) 0 3 4 8 9 := Eq.trans (seq_t (by kernel_rfl) (TS134_11 c) rfl) (by funext s h; kernel_rfl)
noncomputable def S134_13 (c : CF) (t0 t3 t4 t8 : AV) (h : Heap) : Res := opt (fastBin .add t3 t8) fun t72 => opt (fastCut t0 (some t3) (some t72) none) fun t73 => S134_12 c t0 t3 t4 t8 t73 h
theorem TS134_13 (c : CF) : (rk P0 c 107 c134.snd.bd.s4.fst.s2).1 (L3 (S134_10 c) 0 3 4) [] k134 (fun l s h => S134_0g c rounds l (s.rd 0) (s.rd 3) (s.rd 4) h) = L4 (S134_13 c) 0 3 4 8 := Eq.trans (seq_t (by kernel_rfl) (TS134_12 c) rfl) (by funext s h; kernel_rfl)
noncomputable def S134_14 (c : CF) (t0 t3 t4 t8 : AV) (h : Heap) : Res := opt (fastBin .lss t8 (iL 0)) fun t63 => test t63 (opt (lenStr t0) fun t65 => opt (fastBin .sub t65 t3) fun t67 => S134_13 c t0 t3 t4 t67 h) (S134_13 c t0 t3 t4 t8 h)
theorem TS134_14 (c : CF) : (rk P0 c 107 c134.snd.bd.s4.fst.snd).1 (L3 (S134_10 c) 0 3 4) [] k134 (fun l s h => S134_0g c rounds l (s.rd 0) (s.rd 3) (s.rd 4) h) = L4 (S134_14 c) 0 3 4 8 := Eq.trans (seq_t (by kernel_rfl) (TS134_13 c) rfl) (by funext s h; kernel_rfl)
noncomputable def S134_15 (c : CF) (t0 t3 t4 : AV) (h : Heap) : Res := opt (fastCut t0 (some t3) none none) fun t60 => opt2 (c 179 [t60,(sL [91,93,40,41,44])] h) fun t61 h1 => S134_14 c t0 t3 t4 t61 h1
theorem TS134_15 (c : CF) : (rk P0 c 107 c134.snd.bd.s4).1 k134 [] k134 (fun l s h => S134_0g c rounds l (s.rd 0) (s.rd 3) (s.rd 4) h) = L3 (S134_15 c) 0 3 4 := Eq.trans (seq_t (by kernel_rfl) (TS134_10 c) (seq_t (by kernel_rfl) (TS134_14 c) rfl)) (by funext s h; kernel_rfl)
noncomputable def S134_16 (c : CF) (t0 t3 t4 t35 : AV) (h : Heap) : Res := test t35 (opt (fastCut t0 (some t3) none none) fun t39 => opt2 (c 174 [t39] h) fun t40 h1 => opt (extractX t40 0) fun t41 => opt (extractX t40 1) fun t42 => opt (fastBin .eql t42 (iL 0)) fun t44 => test t44 (some ((iL 0),h1)) (opt (fastBin .add t3 t42) fun t48 => opt (fastCut t0 (some t48) none none) fun t49 => opt2 (c 134 [t49] h1) fun t50 h2 => opt (fastBin .eql t50 (iL 0)) fun t52 => test t52 (some ((iL 0),h2)) (opt (fastBin .add t42 t50) fun t56 => opt (fastBin .add t3 t56) fun t57 => S134_0g c rounds 0 t0 t57 t4 h2))) (S134_15 c t0 t3 t4 h)
theorem TS134_16 (c : CF) : (rk P0 c 107 c134.snd.bd.s3.fst.snd).1 (L3 (S134_15 c) 0 3 4) [] k134 (fun l s h => S134_0g c rounds l (s.rd 0) (s.rd 3) (s.rd 4) h) = L4 (S134_16 c) 0 3 4 35 := by funext s h; kernel_rfl
noncomputable def S134_17 (c : CF) (t0 t3 t4 : AV) (h : Heap) : Res := opt (lenStr t0) fun t28 => opt (fastBin .lss t3 t28) fun t29 => test t29 (opt (fastIndex t0 t3) fun t33 => opt (fastBin .eql t33 (uL 40)) fun t34 => S134_16 c t0 t3 t4 t34 h) (S134_16 c t0 t3 t4 fL h)
theorem TS134_17 (c : CF) : (rk P0 c 107 c134.snd.bd.s3).1 k134 [] k134 (fun l s h => S134_0g c rounds l (s.rd 0) (s.rd 3) (s.rd 4) h) = L3 (S134_17 c) 0 3 4 := Eq.trans (seq_t (by kernel_rfl) (TS134_15 c) (seq_t (by kernel_rfl) (TS134_16 c) rfl)) (by funext s h; kernel_rfl)
noncomputable def S134_18 (c : CF) (t0 t3 : AV) (h : Heap) : Res := S134_17 c t0 t3 t3 h
theorem TS134_18 (c : CF) : (rk P0 c 107 c134.snd.bd.s2).1 k134 [] k134 (fun l s h => S134_0g c rounds l (s.rd 0) (s.rd 3) (s.rd 4) h) = L2 (S134_18 c) 0 3 := Eq.trans (seq_t (by kernel_rfl) (TS134_17 c) rfl) (by funext s h; kernel_rfl)
noncomputable def S134_20 (c : CF) (r19 : A2) (t0 t3 : AV) (h : Heap) : Res := opt (fastBin .add t3 (iL 1)) fun t24 => r19 t0 t24 h
theorem TS134_20 (c : CF) (r19 : A2) : (rk P0 c 107 c134.snd.bd.snd.fst.bd.bd.snd).1 (L2 r19 0 3) [(0,(L2 (S134_18 c) 0 3))] k134 (fun l s h => S134_0g c rounds l (s.rd 0) (s.rd 3) (s.rd 4) h) = L2 (S134_20 c r19) 0 3 := by funext s h; kernel_rfl
noncomputable def S134_21b (c : CF) (r19 : A2) (t0 t3 : AV) (h : Heap) : Res := opt (lenStr t0) fun t15 => opt (fastBin .lss t3 t15) fun t16 => test t16 (opt (fastIndex t0 t3) fun t20 => opt (fastBin .eql t20 (uL 91)) fun t21 => test t21 (S134_20 c r19 t0 t3 h) (S134_18 c t0 t3 h)) (S134_18 c t0 t3 h)
theorem TS134_21b (c : CF) (r19 : A2) : (rk P0 c 107 c134.snd.bd.snd.fst.bd.bd).1 (L2 r19 0 3) [(0,(L2 (S134_18 c) 0 3))] k134 (fun l s h => S134_0g c rounds l (s.rd 0) (s.rd 3) (s.rd 4) h) = L2 (S134_21b c r19) 0 3 := Eq.trans (seq_t (by kernel_rfl) (TS134_20 c r19) rfl) (by funext s h; kernel_rfl)
noncomputable def S134_19l (c : CF) : Nat → A2
  | 0 => fun _ _ _ => none
  | k + 1 => S134_21b c (S134_19l c k)
theorem TS134_19l (c : CF) : (rk P0 c 107 c134.snd.bd.snd.fst.bd).1 (L2 (S134_18 c) 0 3) [(0,(L2 (S134_18 c) 0 3))] k134 (fun l s h => S134_0g c rounds l (s.rd 0) (s.rd 3) (s.rd 4) h) = L2 (S134_19l c rounds) 0 3 := loop_t (by kernel_rfl) (loop_ind (A := fun m => L2 (S134_19l c m) 0 3) rfl (fun m => TS134_21b c (S134_19l c m)) rounds)
noncomputable def S134_22 (c : CF) (t0 t3 : AV) (h : Heap) : Res := S134_19l c rounds t0 t3 h
theorem TS134_22 (c : CF) : (rk P0 c 107 c134.snd.bd.snd).1 k134 [] k134 (fun l s h => S134_0g c rounds l (s.rd 0) (s.rd 3) (s.rd 4) h) = L2 (S134_22 c) 0 3 := Eq.trans (seq_t (by kernel_rfl) (TS134_18 c) (block_t (id := 0) (by kernel_rfl) (TS134_19l c))) (by funext s h; kernel_rfl)
noncomputable def S134_23 (c : CF) (t0 : AV) (h : Heap) : Res := S134_22 c t0 (iL 0) h
theorem TS134_23 (c : CF) : (rk P0 c 107 c134.snd).1 k134 [] k134 gK = L1 (S134_23 c) 0 := Eq.trans (scope_t (by kernel_rfl) (TS134_0g c) (seq_t (by kernel_rfl) (TS134_22 c) rfl)) (by funext s h; kernel_rfl)
noncomputable def F134 (c : CF) (a0 : AV) (h : Heap) : Res := S134_23 c a0 h
theorem TF134 (c : CF) (a0 : AV) (h : Heap) : (rk P0 c 107 c134).1 k134 [] k134 gK (argsTr gl 0 [a0]) h = F134 c a0 h := Eq.trans (congrFun (congrFun (seq_t (by kernel_rfl) (TS134_23 c) rfl) _) _) (by kernel_rfl)
noncomputable def N134 : FnF := n1 F134
theorem N134_ok : FnOk P0 gl 134 N134 := n1_ok namesOk mixedOrders lowOk Tryz.func134 (by kernel_rfl) (by kernel_rfl) (by kernel_rfl) TF134
noncomputable def c135 : Code := codeOf Tryz.f135
noncomputable def k135 : Kt := finK P0 Tryz.f135.results.toList
noncomputable def S135_0 (c : CF) (h : Heap) : Res := some ((iL (-1)),h)
theorem TS135_0 (c : CF) : (rk P0 c 19 c135.s2).1 k135 [] k135 gK = L0 (S135_0 c) := by funext s h; kernel_rfl
noncomputable def S135_2b (c : CF) (r1 : A4) (t0 t1 t7 t8 : AV) (h : Heap) : Res := opt (fastBin .lss t8 t7) fun t9 => test t9 (opt (indexAddrS 1 t0 t8 h) fun t14 => opt (loadX none t14 h) fun t15 => opt2 (callV P0 c t1 [t15] h) fun t16 h1 => test t16 (some (t8,h1)) (opt (fastBin .add t8 (iL 1)) fun t18 => r1 t0 t1 t7 t18 h1)) (S135_0 c h)
theorem TS135_2b (c : CF) (r1 : A4) : (rk P0 c 19 c135.snd.fst.snd.bd.bd).1 (L4 r1 0 1 7 8) [(0,(L0 (S135_0 c)))] k135 gK = L4 (S135_2b c r1) 0 1 7 8 := by funext s h; kernel_rfl
noncomputable def S135_1l (c : CF) : Nat → A4
  | 0 => fun _ _ _ _ _ => none
  | k + 1 => S135_2b c (S135_1l c k)
theorem TS135_1l (c : CF) : (rk P0 c 19 c135.snd.fst.snd.bd).1 (L0 (S135_0 c)) [(0,(L0 (S135_0 c)))] k135 gK = L4 (S135_1l c rounds) 0 1 7 8 := loop_t (by kernel_rfl) (loop_ind (A := fun m => L4 (S135_1l c m) 0 1 7 8) rfl (fun m => TS135_2b c (S135_1l c m)) rounds)
noncomputable def S135_3 (c : CF) (t0 t1 t7 t8 : AV) (h : Heap) : Res := S135_1l c rounds t0 t1 t7 t8 h
theorem TS135_3 (c : CF) : (rk P0 c 19 c135.snd.fst.snd).1 (L0 (S135_0 c)) [] k135 gK = L4 (S135_3 c) 0 1 7 8 := Eq.trans (block_t (id := 0) (by kernel_rfl) (TS135_1l c)) (by funext s h; kernel_rfl)
noncomputable def S135_4 (c : CF) (t0 t1 : AV) (h : Heap) : Res := opt (lenS t0) fun t7 => S135_3 c t0 t1 t7 (iL 0) h
theorem TS135_4 (c : CF) : (rk P0 c 19 c135.snd).1 k135 [] k135 gK = L2 (S135_4 c) 0 1 := Eq.trans (seq_t (by kernel_rfl) (TS135_0 c) (seq_t (by kernel_rfl) (TS135_3 c) rfl)) (by funext s h; kernel_rfl)
noncomputable def F135 (c : CF) (a0 a1 : AV) (h : Heap) : Res := S135_4 c a0 a1 h
theorem TF135 (c : CF) (a0 a1 : AV) (h : Heap) : (rk P0 c 19 c135).1 k135 [] k135 gK (argsTr gl 0 [a0,a1]) h = F135 c a0 a1 h := Eq.trans (congrFun (congrFun (seq_t (by kernel_rfl) (TS135_4 c) rfl) _) _) (by kernel_rfl)
noncomputable def N135 : FnF := n2 F135
theorem N135_ok : FnOk P0 gl 135 N135 := n2_ok namesOk mixedOrders lowOk Tryz.func135 (by kernel_rfl) (by kernel_rfl) (by kernel_rfl) TF135
noncomputable def c136 : Code := codeOf Tryz.f136
noncomputable def k136 : Kt := finK P0 Tryz.f136.results.toList
noncomputable def S136_0 (c : CF) (t9 : AV) (h : Heap) : Res := some (t9,h)
theorem TS136_0 (c : CF) : (rk P0 c 65 c136.s7).1 k136 [] k136 gK = L1 (S136_0 c) 9 := by funext s h; kernel_rfl
noncomputable def S136_2b (c : CF) (r1 : A5) (t0 t9 t47 t48 t49 : AV) (h : Heap) : Res := opt (fastBin .lss t49 t48) fun t50 => test t50 (opt (indexAddrS 2 t47 t49 h) fun t52 => opt (loadX (some 2) t52 h) fun t53 => opt2 (box (.agg [(iL 0),(iL 0)]) h) fun t11 h1 => optH (storeX 2 t11 t53 h1) fun h2 => opt (fieldAddrX 0 t11) fun t57 => opt (loadX none t57 h2) fun t58 => opt (fieldAddrX 1 t11) fun t59 => opt (loadX none t59 h2) fun t60 => opt (fastCut t0 (some t58) (some t60) none) fun t61 => opt (indexAddrS 1 t9 t49 h2) fun t62 => optH (storeX 1 t62 t61 h2) fun h3 => opt (fastBin .add t49 (iL 1)) fun t63 => r1 t0 t9 t47 t48 t63 h3) (S136_0 c t9 h)
theorem TS136_2b (c : CF) (r1 : A5) : (rk P0 c 65 c136.s6.fst.snd.bd.bd).1 (L5 r1 0 9 47 48 49) [(2,(L1 (S136_0 c) 9))] k136 gK = L5 (S136_2b c r1) 0 9 47 48 49 := by funext s h; kernel_rfl
noncomputable def S136_1l (c : CF) : Nat → A5
  | 0 => fun _ _ _ _ _ _ => none
  | k + 1 => S136_2b c (S136_1l c k)
theorem TS136_1l (c : CF) : (rk P0 c 65 c136.s6.fst.snd.bd).1 (L1 (S136_0 c) 9) [(2,(L1 (S136_0 c) 9))] k136 gK = L5 (S136_1l c rounds) 0 9 47 48 49 := loop_t (by kernel_rfl) (loop_ind (A := fun m => L5 (S136_1l c m) 0 9 47 48 49) rfl (fun m => TS136_2b c (S136_1l c m)) rounds)
noncomputable def S136_3 (c : CF) (t0 t9 t47 t48 t49 : AV) (h : Heap) : Res := S136_1l c rounds t0 t9 t47 t48 t49 h
theorem TS136_3 (c : CF) : (rk P0 c 65 c136.s6.fst.snd).1 (L1 (S136_0 c) 9) [] k136 gK = L5 (S136_3 c) 0 9 47 48 49 := Eq.trans (block_t (id := 2) (by kernel_rfl) (TS136_1l c)) (by funext s h; kernel_rfl)
noncomputable def S136_4 (c : CF) (t0 t5 t9 : AV) (h : Heap) : Res := opt (lenS t5) fun t48 => S136_3 c t0 t9 t5 t48 (iL 0) h
theorem TS136_4 (c : CF) : (rk P0 c 65 c136.s6).1 k136 [] k136 gK = L3 (S136_4 c) 0 5 9 := Eq.trans (seq_t (by kernel_rfl) (TS136_0 c) (seq_t (by kernel_rfl) (TS136_3 c) rfl)) (by funext s h; kernel_rfl)
noncomputable def S136_5 (c : CF) (t0 t5 : AV) (h : Heap) : Res := opt (lenS t5) fun t45 => opt2 (mksliceX 1 eL 16 t45 t45 h) fun t46 h1 => S136_4 c t0 t5 t46 h1
theorem TS136_5 (c : CF) : (rk P0 c 65 c136.s5).1 k136 [] k136 gK = L2 (S136_5 c) 0 5 := Eq.trans (seq_t (by kernel_rfl) (TS136_4 c) rfl) (by funext s h; kernel_rfl)
noncomputable def S136_6 (c : CF) (t0 t5 t6 : AV) (h : Heap) : Res := opt (fastBin .geq t6 (iL 0)) fun t36 => test t36 (opt (lenStr t0) fun t40 => opt (buildX [(iL 0),(iL 0)] [(0,1),(1,1)] [(0,t6),(1,t40)]) fun t41 => opt2 (bsliceX 2 (.agg [(iL 0),(iL 0)]) 1 [(0,t41)] h) fun t42 h1 => opt2 (appendX 2 16 t5 t42 h1) fun t43 h2 => S136_5 c t0 t43 h2) (S136_5 c t0 t5 h)
theorem TS136_6 (c : CF) : (rk P0 c 65 c136.s4).1 k136 [] k136 gK = L3 (S136_6 c) 0 5 6 := Eq.trans (seq_t (by kernel_rfl) (TS136_5 c) rfl) (by funext s h; kernel_rfl)
noncomputable def S136_8b (c : CF) (r7 : A5) (t0 t1 t5 t6 t14 : AV) (h : Heap) : Res := opt2 (nextS t14 h) fun t15 h1 => opt (extractX t15 0) fun t16 => test t16 (opt (extractX t15 1) fun t17 => opt (extractX t15 2) fun t18 => opt2 (callV P0 c t1 [t18] h1) fun t21 h2 => test t21 (opt (fastBin .geq t6 (iL 0)) fun t23 => test t23 (opt (buildX [(iL 0),(iL 0)] [(0,1),(1,1)] [(0,t6),(1,t17)]) fun t27 => opt2 (bsliceX 2 (.agg [(iL 0),(iL 0)]) 1 [(0,t27)] h2) fun t28 h3 => opt2 (appendX 2 16 t5 t28 h3) fun t29 h4 => opt (litUn P0 .xor t6) fun t31 => r7 t0 t1 t29 t31 t14 h4) (r7 t0 t1 t5 t6 t14 h2)) (opt (fastBin .lss t6 (iL 0)) fun t33 => test t33 (r7 t0 t1 t5 t17 t14 h2) (r7 t0 t1 t5 t6 t14 h2))) (S136_6 c t0 t5 t6 h1)
theorem TS136_8b (c : CF) (r7 : A5) : (rk P0 c 65 c136.s3.fst.snd.bd.bd).1 (L5 r7 0 1 5 6 14) [(0,(L3 (S136_6 c) 0 5 6))] k136 gK = L5 (S136_8b c r7) 0 1 5 6 14 := by funext s h; kernel_rfl
noncomputable def S136_7l (c : CF) : Nat → A5
  | 0 => fun _ _ _ _ _ _ => none
  | k + 1 => S136_8b c (S136_7l c k)
theorem TS136_7l (c : CF) : (rk P0 c 65 c136.s3.fst.snd.bd).1 (L3 (S136_6 c) 0 5 6) [(0,(L3 (S136_6 c) 0 5 6))] k136 gK = L5 (S136_7l c rounds) 0 1 5 6 14 := loop_t (by kernel_rfl) (loop_ind (A := fun m => L5 (S136_7l c m) 0 1 5 6 14) rfl (fun m => TS136_8b c (S136_7l c m)) rounds)
noncomputable def S136_9 (c : CF) (t0 t1 t5 t6 t14 : AV) (h : Heap) : Res := S136_7l c rounds t0 t1 t5 t6 t14 h
theorem TS136_9 (c : CF) : (rk P0 c 65 c136.s3.fst.snd).1 (L3 (S136_6 c) 0 5 6) [] k136 gK = L5 (S136_9 c) 0 1 5 6 14 := Eq.trans (block_t (id := 0) (by kernel_rfl) (TS136_7l c)) (by funext s h; kernel_rfl)
noncomputable def S136_10 (c : CF) (t0 t1 t5 t6 : AV) (h : Heap) : Res := opt2 (rangeX t0 h) fun t14 h1 => S136_9 c t0 t1 t5 t6 t14 h1
theorem TS136_10 (c : CF) : (rk P0 c 65 c136.s3).1 k136 [] k136 gK = L4 (S136_10 c) 0 1 5 6 := Eq.trans (seq_t (by kernel_rfl) (TS136_6 c) (seq_t (by kernel_rfl) (TS136_9 c) rfl)) (by funext s h; kernel_rfl)
noncomputable def S136_11 (c : CF) (t0 t1 t5 : AV) (h : Heap) : Res := S136_10 c t0 t1 t5 (iL (-1)) h
theorem TS136_11 (c : CF) : (rk P0 c 65 c136.s2).1 k136 [] k136 gK = L3 (S136_11 c) 0 1 5 := Eq.trans (seq_t (by kernel_rfl) (TS136_10 c) rfl) (by funext s h; kernel_rfl)
noncomputable def S136_12 (c : CF) (t0 t1 : AV) (h : Heap) : Res := opt2 (mksliceX 2 (.agg [(iL 0),(iL 0)]) 16 (iL 0) (iL 32) h) fun t12 h1 => S136_11 c t0 t1 t12 h1
theorem TS136_12 (c : CF) : (rk P0 c 65 c136.snd).1 k136 [] k136 gK = L2 (S136_12 c) 0 1 := Eq.trans (seq_t (by kernel_rfl) (TS136_11 c) rfl) (by funext s h; kernel_rfl)
noncomputable def F136 (c : CF) (a0 a1 : AV) (h : Heap) : Res := S136_12 c a0 a1 h
theorem TF136 (c : CF) (a0 a1 : AV) (h : Heap) : (rk P0 c 65 c136).1 k136 [] k136 gK (argsTr gl 0 [a0,a1]) h = F136 c a0 a1 h := Eq.trans (congrFun (congrFun (seq_t (by kernel_rfl) (TS136_12 c) rfl) _) _) (by kernel_rfl)
noncomputable def N136 : FnF := n2 F136
theorem N136_ok : FnOk P0 gl 136 N136 := n2_ok namesOk mixedOrders lowOk Tryz.func136 (by kernel_rfl) (by kernel_rfl) (by kernel_rfl) TF136
noncomputable def c137 : Code := codeOf Tryz.f137
noncomputable def k137 : Kt := finK P0 Tryz.f137.results.toList
noncomputable def F137 (c : CF) (a0 : AV) (h : Heap) : Res := opt2 (c 138 [(sL [91,93,40,41,44]),a0] h) fun t4 h1 => some (t4,h1)
theorem TF137 (c : CF) (a0 : AV) (h : Heap) : (rk P0 c 5 c137).1 k137 [] k137 gK (argsTr gl 0 [a0]) h = F137 c a0 h := by kernel_rfl
noncomputable def N137 : FnF := n1 F137
theorem N137_ok : FnOk P0 gl 137 N137 := n1_ok namesOk mixedOrders lowOk Tryz.func137 (by kernel_rfl) (by kernel_rfl) (by kernel_rfl) TF137
noncomputable def c139 : Code := codeOf Tryz.f139
noncomputable def k139 : Kt := finK P0 Tryz.f139.results.toList
noncomputable def F139 (c : CF) (a0 a1 : AV) (h : Heap) : Res := opt2 (c 183 [a0,a1] h) fun t7 h1 => opt (fastBin .geq t7 (iL 0)) fun t8 => some (t8,h1)
theorem TF139 (c : CF) (a0 a1 : AV) (h : Heap) : (rk P0 c 9 c139).1 k139 [] k139 gK (argsTr gl 0 [a0,a1]) h = F139 c a0 a1 h := by kernel_rfl
noncomputable def N139 : FnF := n2 F139
theorem N139_ok : FnOk P0 gl 139 N139 := n2_ok namesOk mixedOrders lowOk Tryz.func139 (by kernel_rfl) (by kernel_rfl) (by kernel_rfl) TF139
noncomputable def c140 : Code := codeOf Tryz.f140
noncomputable def k140 : Kt := finK P0 Tryz.f140.results.toList
noncomputable def F140 (c : CF) (a0 : AV) (h : Heap) : Res := opt (lenS a0) fun t4 => opt (convI .u64 t4) fun t8 => opt2 (c 109 [t8] h) fun t9 h1 => opt2 (c 184 [a0,(iL 0),t4,t9] h1) fun t10 h2 => some ((.lit (.tuple #[])),h2)
theorem TF140 (c : CF) (a0 : AV) (h : Heap) : (rk P0 c 11 c140).1 k140 [] k140 gK (argsTr gl 0 [a0]) h = F140 c a0 h := by kernel_rfl
noncomputable def N140 : FnF := n1 F140
theorem N140_ok : FnOk P0 gl 140 N140 := n1_ok namesOk mixedOrders lowOk Tryz.func140 (by kernel_rfl) (by kernel_rfl) (by kernel_rfl) TF140
noncomputable def c141 : Code := codeOf Tryz.f141
noncomputable def k141 : Kt := finK P0 Tryz.f141.results.toList
noncomputable def S141_0 (c : CF) (t0 : AV) (h : Heap) : Res := some (t0,h)
theorem TS141_0 (c : CF) : (rk P0 c 61 c141.s3).1 k141 [] k141 gK = L1 (S141_0 c) 0 := by funext s h; kernel_rfl
noncomputable def S141_2 (c : CF) (r1 : A2) (t0 t3 : AV) (h : Heap) : Res := opt (fastBin .add t3 (iL 1)) fun t15 => r1 t0 t15 h
theorem TS141_2 (c : CF) (r1 : A2) : (rk P0 c 61 c141.s2.fst.snd.bd.bd.s2).1 (L2 r1 0 3) [(0,(L1 (S141_0 c) 0))] k141 gK = L2 (S141_2 c r1) 0 3 := by funext s h; kernel_rfl
noncomputable def S141_3 (c : CF) (r1 : A2) (t0 t3 : AV) (h : Heap) : Res := opt (cutZ 1 t0 (some t3) none none h) fun t56 => opt2 (clearX 1 eL t56 h) fun u h1 => opt (cutZ 1 t0 none (some t3) none h1) fun t59 => some (t59,h1)
theorem TS141_3 (c : CF) (r1 : A2) : (rk P0 c 61 c141.s2.fst.snd.bd.bd.snd.fst.bd.snd.thn.s2).1 (L2 (S141_2 c r1) 0 3) [(1,(L2 (S141_2 c r1) 0 3)),(0,(L1 (S141_0 c) 0))] k141 gK = L2 (S141_3 c r1) 0 3 := by funext s h; kernel_rfl
noncomputable def S141_5 (c : CF) (r1 : A2) (r4 : A4) (t0 t3 t4 t5 : AV) (h : Heap) : Res := opt (fastBin .add t5 (iL 1)) fun t34 => r4 t0 t3 t4 t34 h
theorem TS141_5 (c : CF) (r1 : A2) (r4 : A4) : (rk P0 c 61 c141.s2.fst.snd.bd.bd.snd.fst.bd.snd.thn.snd.fst.snd.bd.bd.s2).1 (L4 r4 0 3 4 5) [(2,(L2 (S141_3 c r1) 0 3)),(1,(L2 (S141_2 c r1) 0 3)),(0,(L1 (S141_0 c) 0))] k141 gK = L4 (S141_5 c r1 r4) 0 3 4 5 := by funext s h; kernel_rfl
noncomputable def S141_6 (c : CF) (r1 : A2) (r4 : A4) (t0 t3 t4 t5 : AV) (h : Heap) : Res := opt (indexAddrS 1 t4 t5 h) fun t37 => eqH h h (opt (loadX none t37 h) fun t38 => eqH h h (opt (fastBin .sub t5 (iL 1)) fun t41 => opt (indexAddrS 1 t4 t41 h) fun t42 => eqH h h (opt (loadX none t42 h) fun t43 => eqH h h (opt (fastBin .neq t38 t43) fun t44 => test t44 (opt (indexAddrS 1 t4 t5 h) fun t49 => opt (loadX none t49 h) fun t50 => opt (indexAddrS 1 t0 t3 h) fun t51 => optH (storeX 1 t51 t50 h) fun h1 => opt (fastBin .add t3 (iL 1)) fun t53 => S141_5 c r1 r4 t0 t53 t4 t5 h1) (S141_5 c r1 r4 t0 t3 t4 t5 h)))))
theorem TS141_6 (c : CF) (r1 : A2) (r4 : A4) : (rk P0 c 61 c141.s2.fst.snd.bd.bd.snd.fst.bd.snd.thn.snd.fst.snd.bd.bd.snd).1 (L4 r4 0 3 4 5) [(2,(L2 (S141_3 c r1) 0 3)),(1,(L2 (S141_2 c r1) 0 3)),(0,(L1 (S141_0 c) 0))] k141 gK = L4 (S141_6 c r1 r4) 0 3 4 5 := Eq.trans (seq_t (by kernel_rfl) (TS141_5 c r1 r4) rfl) (by funext s h; kernel_rfl)
noncomputable def S141_7b (c : CF) (r1 : A2) (r4 : A4) (t0 t3 t4 t5 : AV) (h : Heap) : Res := opt (lenS t4) fun t31 => opt (fastBin .lss t5 t31) fun t32 => test t32 (S141_6 c r1 r4 t0 t3 t4 t5 h) (S141_3 c r1 t0 t3 h)
theorem TS141_7b (c : CF) (r1 : A2) (r4 : A4) : (rk P0 c 61 c141.s2.fst.snd.bd.bd.snd.fst.bd.snd.thn.snd.fst.snd.bd.bd).1 (L4 r4 0 3 4 5) [(2,(L2 (S141_3 c r1) 0 3)),(1,(L2 (S141_2 c r1) 0 3)),(0,(L1 (S141_0 c) 0))] k141 gK = L4 (S141_7b c r1 r4) 0 3 4 5 := Eq.trans (seq_t (by kernel_rfl) (TS141_6 c r1 r4) rfl) (by funext s h; kernel_rfl)
noncomputable def S141_4l (c : CF) (r1 : A2) : Nat → A4
  | 0 => fun _ _ _ _ _ => none
  | k + 1 => S141_7b c r1 (S141_4l c r1 k)
theorem TS141_4l (c : CF) (r1 : A2) : (rk P0 c 61 c141.s2.fst.snd.bd.bd.snd.fst.bd.snd.thn.snd.fst.snd.bd).1 (L2 (S141_3 c r1) 0 3) [(2,(L2 (S141_3 c r1) 0 3)),(1,(L2 (S141_2 c r1) 0 3)),(0,(L1 (S141_0 c) 0))] k141 gK = L4 (S141_4l c r1 rounds) 0 3 4 5 := loop_t (by kernel_rfl) (loop_ind (A := fun m => L4 (S141_4l c r1 m) 0 3 4 5) rfl (fun m => TS141_7b c r1 (S141_4l c r1 m)) rounds)
noncomputable def S141_8 (c : CF) (r1 : A2) (t0 t3 t4 t5 : AV) (h : Heap) : Res := S141_4l c r1 rounds t0 t3 t4 t5 h
theorem TS141_8 (c : CF) (r1 : A2) : (rk P0 c 61 c141.s2.fst.snd.bd.bd.snd.fst.bd.snd.thn.snd.fst.snd).1 (L2 (S141_3 c r1) 0 3) [(1,(L2 (S141_2 c r1) 0 3)),(0,(L1 (S141_0 c) 0))] k141 gK = L4 (S141_8 c r1) 0 3 4 5 := Eq.trans (block_t (id := 2) (by kernel_rfl) (TS141_4l c r1)) (by funext s h; kernel_rfl)
noncomputable def S141_9 (c : CF) (r1 : A2) (t0 t3 t4 : AV) (h : Heap) : Res := S141_8 c r1 t0 t3 t4 (iL 1) h
theorem TS141_9 (c : CF) (r1 : A2) : (rk P0 c 61 c141.s2.fst.snd.bd.bd.snd.fst.bd.snd.thn.snd).1 (L2 (S141_2 c r1) 0 3) [(1,(L2 (S141_2 c r1) 0 3)),(0,(L1 (S141_0 c) 0))] k141 gK = L3 (S141_9 c r1) 0 3 4 := Eq.trans (seq_t (by kernel_rfl) (TS141_3 c r1) (seq_t (by kernel_rfl) (TS141_8 c r1) rfl)) (by funext s h; kernel_rfl)
noncomputable def S141_10 (c : CF) (r1 : A2) (t0 t3 : AV) (h : Heap) : Res := opt (cutZ 1 t0 (some t3) none none h) fun t28 => S141_9 c r1 t0 t3 t28 h
theorem TS141_10 (c : CF) (r1 : A2) : (rk P0 c 61 c141.s2.fst.snd.bd.bd.snd.fst.bd.snd.thn).1 (L2 (S141_2 c r1) 0 3) [(1,(L2 (S141_2 c r1) 0 3)),(0,(L1 (S141_0 c) 0))] k141 gK = L2 (S141_10 c r1) 0 3 := Eq.trans (seq_t (by kernel_rfl) (TS141_9 c r1) rfl) (by funext s h; kernel_rfl)
noncomputable def S141_11 (c : CF) (r1 : A2) (t0 t3 t25 : AV) (h : Heap) : Res := test t25 (S141_10 c r1 t0 t3 h) (S141_2 c r1 t0 t3 h)
theorem TS141_11 (c : CF) (r1 : A2) : (rk P0 c 61 c141.s2.fst.snd.bd.bd.snd.fst.bd.snd).1 (L2 (S141_2 c r1) 0 3) [(1,(L2 (S141_2 c r1) 0 3)),(0,(L1 (S141_0 c) 0))] k141 gK = L3 (S141_11 c r1) 0 3 25 := Eq.trans (cond_t (by kernel_rfl) (TS141_10 c r1) rfl) (by funext s h; kernel_rfl)
noncomputable def S141_12 (c : CF) (r1 : A2) (t0 t3 : AV) (h : Heap) : Res := opt (indexAddrS 1 t0 t3 h) fun t18 => eqH h h (opt (loadX none t18 h) fun t19 => eqH h h (opt (fastBin .sub t3 (iL 1)) fun t22 => opt (indexAddrS 1 t0 t22 h) fun t23 => eqH h h (opt (loadX none t23 h) fun t24 => eqH h h (opt (fastBin .eql t19 t24) fun t25 => S141_11 c r1 t0 t3 t25 h))))
theorem TS141_12 (c : CF) (r1 : A2) : (rk P0 c 61 c141.s2.fst.snd.bd.bd.snd).1 (L2 r1 0 3) [(0,(L1 (S141_0 c) 0))] k141 gK = L2 (S141_12 c r1) 0 3 := Eq.trans (seq_t (by kernel_rfl) (TS141_2 c r1) (block_t (id := 1) (by kernel_rfl) (seq_t (by kernel_rfl) (TS141_11 c r1) rfl))) (by funext s h; kernel_rfl)
noncomputable def S141_13b (c : CF) (r1 : A2) (t0 t3 : AV) (h : Heap) : Res := opt (lenS t0) fun t12 => opt (fastBin .lss t3 t12) fun t13 => test t13 (S141_12 c r1 t0 t3 h) (S141_0 c t0 h)
theorem TS141_13b (c : CF) (r1 : A2) : (rk P0 c 61 c141.s2.fst.snd.bd.bd).1 (L2 r1 0 3) [(0,(L1 (S141_0 c) 0))] k141 gK = L2 (S141_13b c r1) 0 3 := Eq.trans (seq_t (by kernel_rfl) (TS141_12 c r1) rfl) (by funext s h; kernel_rfl)
noncomputable def S141_1l (c : CF) : Nat → A2
  | 0 => fun _ _ _ => none
  | k + 1 => S141_13b c (S141_1l c k)
theorem TS141_1l (c : CF) : (rk P0 c 61 c141.s2.fst.snd.bd).1 (L1 (S141_0 c) 0) [(0,(L1 (S141_0 c) 0))] k141 gK = L2 (S141_1l c rounds) 0 3 := loop_t (by kernel_rfl) (loop_ind (A := fun m => L2 (S141_1l c m) 0 3) rfl (fun m => TS141_13b c (S141_1l c m)) rounds)
noncomputable def S141_14 (c : CF) (t0 t3 : AV) (h : Heap) : Res := S141_1l c rounds t0 t3 h
theorem TS141_14 (c : CF) : (rk P0 c 61 c141.s2.fst.snd).1 (L1 (S141_0 c) 0) [] k141 gK = L2 (S141_14 c) 0 3 := Eq.trans (block_t (id := 0) (by kernel_rfl) (TS141_1l c)) (by funext s h; kernel_rfl)
noncomputable def S141_15 (c : CF) (t0 : AV) (h : Heap) : Res := S141_14 c t0 (iL 1) h
theorem TS141_15 (c : CF) : (rk P0 c 61 c141.s2).1 k141 [] k141 gK = L1 (S141_15 c) 0 := Eq.trans (seq_t (by kernel_rfl) (TS141_0 c) (seq_t (by kernel_rfl) (TS141_14 c) rfl)) (by funext s h; kernel_rfl)
noncomputable def S141_16 (c : CF) (t0 : AV) (h : Heap) : Res := opt (lenS t0) fun t7 => opt (fastBin .lss t7 (iL 2)) fun t8 => test t8 (some (t0,h)) (S141_15 c t0 h)
theorem TS141_16 (c : CF) : (rk P0 c 61 c141.snd).1 k141 [] k141 gK = L1 (S141_16 c) 0 := Eq.trans (seq_t (by kernel_rfl) (TS141_15 c) rfl) (by funext s h; kernel_rfl)
noncomputable def F141 (c : CF) (a0 : AV) (h : Heap) : Res := S141_16 c a0 h
theorem TF141 (c : CF) (a0 : AV) (h : Heap) : (rk P0 c 61 c141).1 k141 [] k141 gK (argsTr gl 0 [a0]) h = F141 c a0 h := Eq.trans (congrFun (congrFun (seq_t (by kernel_rfl) (TS141_16 c) rfl) _) _) (by kernel_rfl)
noncomputable def N141 : FnF := n1 F141
theorem N141_ok : FnOk P0 gl 141 N141 := n1_ok namesOk mixedOrders lowOk Tryz.func141 (by kernel_rfl) (by kernel_rfl) (by kernel_rfl) TF141
noncomputable def c143 : Code := codeOf Tryz.f143
noncomputable def k143 : Kt := finK P0 Tryz.f143.results.toList
noncomputable def S143_0 (c : CF) (t0 : AV) (h : Heap) : Res := opt2 (c 170 [t0] h) fun t58 h1 => opt (fastBin .eql t58 (iL 4)) fun t59 => test t59 (opt2 (bsliceX 1 eL 1 [(0,t0)] h1) fun t61 h2 => some (t61,h2)) (some (nL,h1))
theorem TS143_0 (c : CF) : (rk P0 c 62 c143.s6).1 k143 [] k143 gK = L1 (S143_0 c) 0 := by funext s h; kernel_rfl
noncomputable def S143_1 (c : CF) (t3 : AV) (h : Heap) : Res := some (t3,h)
theorem TS143_1 (c : CF) : (rk P0 c 62 c143.s5.fst.snd.thn.s2).1 (L1 (S143_0 c) 0) [] k143 gK = L1 (S143_1 c) 3 := by funext s h; kernel_rfl
noncomputable def S143_3 (c : CF) (r2 : A3) (t3 t6 t9 : AV) (h : Heap) : Res := opt (fastBin .add t9 (iL 1)) fun t38 => r2 t3 t6 t38 h
theorem TS143_3 (c : CF) (r2 : A3) : (rk P0 c 62 c143.s5.fst.snd.thn.snd.fst.snd.bd.bd.s2).1 (L3 r2 3 6 9) [(0,(L1 (S143_1 c) 3))] k143 gK = L3 (S143_3 c r2) 3 6 9 := by funext s h; kernel_rfl
noncomputable def S143_5b (c : CF) (r2 : A3) (r4 : A5) (t3 t6 t9 t10 t11 : AV) (h : Heap) : Res := opt (lenS t10) fun t46 => opt (fastBin .lss t11 t46) fun t47 => test t47 (opt (indexAddrS 1 t10 t11 h) fun t53 => opt (loadX none t53 h) fun t54 => opt2 (c 56 [t3,t54] h) fun t55 h1 => opt (fastBin .add t11 (iL 1)) fun t49 => r4 t55 t6 t9 t10 t49 h1) (S143_3 c r2 t3 t6 t9 h)
theorem TS143_5b (c : CF) (r2 : A3) (r4 : A5) : (rk P0 c 62 c143.s5.fst.snd.thn.snd.fst.snd.bd.bd.snd.fst.bd.s2.bd.bd).1 (L5 r4 3 6 9 10 11) [(2,(L3 (S143_3 c r2) 3 6 9)),(1,(L3 (S143_3 c r2) 3 6 9)),(0,(L1 (S143_1 c) 3))] k143 gK = L5 (S143_5b c r2 r4) 3 6 9 10 11 := by funext s h; kernel_rfl
noncomputable def S143_4l (c : CF) (r2 : A3) : Nat → A5
  | 0 => fun _ _ _ _ _ _ => none
  | k + 1 => S143_5b c r2 (S143_4l c r2 k)
theorem TS143_4l (c : CF) (r2 : A3) : (rk P0 c 62 c143.s5.fst.snd.thn.snd.fst.snd.bd.bd.snd.fst.bd.s2.bd).1 (L3 (S143_3 c r2) 3 6 9) [(2,(L3 (S143_3 c r2) 3 6 9)),(1,(L3 (S143_3 c r2) 3 6 9)),(0,(L1 (S143_1 c) 3))] k143 gK = L5 (S143_4l c r2 rounds) 3 6 9 10 11 := loop_t (by kernel_rfl) (loop_ind (A := fun m => L5 (S143_4l c r2 m) 3 6 9 10 11) rfl (fun m => TS143_5b c r2 (S143_4l c r2 m)) rounds)
noncomputable def S143_6 (c : CF) (r2 : A3) (t3 t6 t9 t10 t11 : AV) (h : Heap) : Res := S143_4l c r2 rounds t3 t6 t9 t10 t11 h
theorem TS143_6 (c : CF) (r2 : A3) : (rk P0 c 62 c143.s5.fst.snd.thn.snd.fst.snd.bd.bd.snd.fst.bd.s2).1 (L3 (S143_3 c r2) 3 6 9) [(1,(L3 (S143_3 c r2) 3 6 9)),(0,(L1 (S143_1 c) 3))] k143 gK = L5 (S143_6 c r2) 3 6 9 10 11 := Eq.trans (block_t (id := 2) (by kernel_rfl) (TS143_4l c r2)) (by funext s h; kernel_rfl)
noncomputable def S143_7 (c : CF) (r2 : A3) (t3 t6 t9 t10 : AV) (h : Heap) : Res := S143_6 c r2 t3 t6 t9 t10 (iL 0) h
theorem TS143_7 (c : CF) (r2 : A3) : (rk P0 c 62 c143.s5.fst.snd.thn.snd.fst.snd.bd.bd.snd.fst.bd.snd).1 (L3 (S143_3 c r2) 3 6 9) [(1,(L3 (S143_3 c r2) 3 6 9)),(0,(L1 (S143_1 c) 3))] k143 gK = L4 (S143_7 c r2) 3 6 9 10 := Eq.trans (seq_t (by kernel_rfl) (TS143_6 c r2) rfl) (by funext s h; kernel_rfl)
noncomputable def S143_8 (c : CF) (r2 : A3) (t3 t6 t9 : AV) (h : Heap) : Res := opt (indexAddrS 1 t6 t9 h) fun t41 => opt (loadX none t41 h) fun t42 => opt2 (c 143 [t42] h) fun t43 h1 => S143_7 c r2 t3 t6 t9 t43 h1
theorem TS143_8 (c : CF) (r2 : A3) : (rk P0 c 62 c143.s5.fst.snd.thn.snd.fst.snd.bd.bd.snd).1 (L3 r2 3 6 9) [(0,(L1 (S143_1 c) 3))] k143 gK = L3 (S143_8 c r2) 3 6 9 := Eq.trans (seq_t (by kernel_rfl) (TS143_3 c r2) (block_t (id := 1) (by kernel_rfl) (seq_t (by kernel_rfl) (TS143_7 c r2) rfl))) (by funext s h; kernel_rfl)
noncomputable def S143_9b (c : CF) (r2 : A3) (t3 t6 t9 : AV) (h : Heap) : Res := opt (lenS t6) fun t35 => opt (fastBin .lss t9 t35) fun t36 => test t36 (S143_8 c r2 t3 t6 t9 h) (S143_1 c t3 h)
theorem TS143_9b (c : CF) (r2 : A3) : (rk P0 c 62 c143.s5.fst.snd.thn.snd.fst.snd.bd.bd).1 (L3 r2 3 6 9) [(0,(L1 (S143_1 c) 3))] k143 gK = L3 (S143_9b c r2) 3 6 9 := Eq.trans (seq_t (by kernel_rfl) (TS143_8 c r2) rfl) (by funext s h; kernel_rfl)
noncomputable def S143_2l (c : CF) : Nat → A3
  | 0 => fun _ _ _ _ => none
  | k + 1 => S143_9b c (S143_2l c k)
theorem TS143_2l (c : CF) : (rk P0 c 62 c143.s5.fst.snd.thn.snd.fst.snd.bd).1 (L1 (S143_1 c) 3) [(0,(L1 (S143_1 c) 3))] k143 gK = L3 (S143_2l c rounds) 3 6 9 := loop_t (by kernel_rfl) (loop_ind (A := fun m => L3 (S143_2l c m) 3 6 9) rfl (fun m => TS143_9b c (S143_2l c m)) rounds)
noncomputable def S143_10 (c : CF) (t3 t6 t9 : AV) (h : Heap) : Res := S143_2l c rounds t3 t6 t9 h
theorem TS143_10 (c : CF) : (rk P0 c 62 c143.s5.fst.snd.thn.snd.fst.snd).1 (L1 (S143_1 c) 3) [] k143 gK = L3 (S143_10 c) 3 6 9 := Eq.trans (block_t (id := 0) (by kernel_rfl) (TS143_2l c)) (by funext s h; kernel_rfl)
noncomputable def S143_11 (c : CF) (t3 t6 : AV) (h : Heap) : Res := S143_10 c t3 t6 (iL 0) h
theorem TS143_11 (c : CF) : (rk P0 c 62 c143.s5.fst.snd.thn.snd).1 (L1 (S143_0 c) 0) [] k143 gK = L2 (S143_11 c) 3 6 := Eq.trans (seq_t (by kernel_rfl) (TS143_1 c) (seq_t (by kernel_rfl) (TS143_10 c) rfl)) (by funext s h; kernel_rfl)
noncomputable def S143_12 (c : CF) (t3 t6 t7 : AV) (h : Heap) : Res := opt2 (bsliceX 1 eL 0 [] h) fun t27 h1 => opt2 (appendX 1 16 t27 t6 h1) fun t29 h2 => opt2 (bsliceX 1 eL 1 [(0,t7)] h2) fun t31 h3 => opt2 (appendX 1 16 t29 t31 h3) fun t32 h4 => S143_11 c t3 t32 h4
theorem TS143_12 (c : CF) : (rk P0 c 62 c143.s5.fst.snd.thn).1 (L1 (S143_0 c) 0) [] k143 gK = L3 (S143_12 c) 3 6 7 := Eq.trans (seq_t (by kernel_rfl) (TS143_11 c) rfl) (by funext s h; kernel_rfl)
noncomputable def S143_13 (c : CF) (t0 t3 t6 t7 t26 : AV) (h : Heap) : Res := test t26 (S143_12 c t3 t6 t7 h) (S143_0 c t0 h)
theorem TS143_13 (c : CF) : (rk P0 c 62 c143.s5.fst.snd).1 (L1 (S143_0 c) 0) [] k143 gK = L5 (S143_13 c) 0 3 6 7 26 := Eq.trans (cond_t (by kernel_rfl) (TS143_12 c) rfl) (by funext s h; kernel_rfl)
noncomputable def S143_14 (c : CF) (t0 t3 t6 t7 t8 : AV) (h : Heap) : Res := S143_13 c t0 t3 t6 t7 t8 h
theorem TS143_14 (c : CF) : (rk P0 c 62 c143.s5).1 k143 [] k143 gK = L5 (S143_14 c) 0 3 6 7 8 := Eq.trans (seq_t (by kernel_rfl) (TS143_0 c) (seq_t (by kernel_rfl) (TS143_13 c) rfl)) (by funext s h; kernel_rfl)
noncomputable def S143_15 (c : CF) (t0 t3 : AV) (h : Heap) : Res := opt2 (c 113 [t0] h) fun t22 h1 => opt (extractX t22 0) fun t23 => opt (extractX t22 1) fun t24 => opt (extractX t22 2) fun t25 => S143_14 c t0 t3 t23 t24 t25 h1
theorem TS143_15 (c : CF) : (rk P0 c 62 c143.s4).1 k143 [] k143 gK = L2 (S143_15 c) 0 3 := Eq.trans (seq_t (by kernel_rfl) (TS143_14 c) rfl) (by funext s h; kernel_rfl)
noncomputable def S143_16 (c : CF) (t0 t3 t4 t5 : AV) (h : Heap) : Res := test t5 (opt2 (c 143 [t4] h) fun t19 h1 => some (t19,h1)) (S143_15 c t0 t3 h)
theorem TS143_16 (c : CF) : (rk P0 c 62 c143.s3).1 k143 [] k143 gK = L4 (S143_16 c) 0 3 4 5 := Eq.trans (seq_t (by kernel_rfl) (TS143_15 c) rfl) (by funext s h; kernel_rfl)
noncomputable def S143_17 (c : CF) (t0 t3 : AV) (h : Heap) : Res := opt2 (c 148 [t0] h) fun t14 h1 => opt (extractX t14 0) fun t15 => opt (extractX t14 1) fun t16 => S143_16 c t0 t3 t15 t16 h1
theorem TS143_17 (c : CF) : (rk P0 c 62 c143.s2).1 k143 [] k143 gK = L2 (S143_17 c) 0 3 := Eq.trans (seq_t (by kernel_rfl) (TS143_16 c) rfl) (by funext s h; kernel_rfl)
noncomputable def S143_18 (c : CF) (t0 : AV) (h : Heap) : Res := S143_17 c t0 nL h
theorem TS143_18 (c : CF) : (rk P0 c 62 c143.snd).1 k143 [] k143 gK = L1 (S143_18 c) 0 := Eq.trans (seq_t (by kernel_rfl) (TS143_17 c) rfl) (by funext s h; kernel_rfl)
noncomputable def F143 (c : CF) (a0 : AV) (h : Heap) : Res := S143_18 c a0 h
theorem TF143 (c : CF) (a0 : AV) (h : Heap) : (rk P0 c 62 c143).1 k143 [] k143 gK (argsTr gl 0 [a0]) h = F143 c a0 h := Eq.trans (congrFun (congrFun (seq_t (by kernel_rfl) (TS143_18 c) rfl) _) _) (by kernel_rfl)
noncomputable def N143 : FnF := n1 F143
theorem N143_ok : FnOk P0 gl 143 N143 := n1_ok namesOk mixedOrders lowOk Tryz.func143 (by kernel_rfl) (by kernel_rfl) (by kernel_rfl) TF143
noncomputable def c144 : Code := codeOf Tryz.f144
noncomputable def k144 : Kt := finK P0 Tryz.f144.results.toList
noncomputable def S144_0 (c : CF) (t13 : AV) (h : Heap) : Res := opt (fieldAddrX 3 t13) fun t69 => opt (loadX none t69 h) fun t70 => some ((.tup [t70,tL]),h)
theorem TS144_0 (c : CF) : (rk P0 c 71 c144.s7).1 k144 [] k144 gK = L1 (S144_0 c) 13 := by funext s h; kernel_rfl
noncomputable def S144_1 (c : CF) (t13 t68 : AV) (h : Heap) : Res := test t68 (some ((.tup [nL,fL]),h)) (S144_0 c t13 h)
theorem TS144_1 (c : CF) : (rk P0 c 71 c144.s6.fst.snd).1 (L1 (S144_0 c) 13) [] k144 gK = L2 (S144_1 c) 13 68 := by funext s h; kernel_rfl
noncomputable def S144_2 (c : CF) (t2 t6 t7 t13 t14 : AV) (h : Heap) : Res := opt (notX t14) fun t56 => test t56 (S144_1 c t13 tL h) (opt (loadX (some 7) t2 h) fun t58 => opt2 (c 189 [t58,t6,t7] h) fun t61 h1 => opt (notX t61) fun t62 => test t62 (S144_1 c t13 tL h1) (opt (fieldAddrX 0 t13) fun t65 => opt (loadX none t65 h1) fun t66 => opt (fastBin .neq t66 (iL 1)) fun t67 => S144_1 c t13 t67 h1))
theorem TS144_2 (c : CF) : (rk P0 c 71 c144.s6).1 k144 [] k144 gK = L5 (S144_2 c) 2 6 7 13 14 := Eq.trans (seq_t (by kernel_rfl) (TS144_0 c) (seq_t (by kernel_rfl) (TS144_1 c) rfl)) (by funext s h; kernel_rfl)
noncomputable def S144_3 (c : CF) (t2 t6 t7 t11 : AV) (h : Heap) : Res := opt (loadX (some 2) t11 h) fun t50 => opt2 (c 39 [t50,t7] h) fun t52 h1 => opt (extractX t52 0) fun t53 => opt (extractX t52 1) fun t54 => opt2 (box (.agg [(iL 0),eL,eL,nL]) h1) fun t13 h2 => optH (storeX 4 t13 t53 h2) fun h3 => S144_2 c t2 t6 t7 t13 t54 h3
theorem TS144_3 (c : CF) : (rk P0 c 71 c144.s5).1 k144 [] k144 gK = L4 (S144_3 c) 2 6 7 11 := Eq.trans (seq_t (by kernel_rfl) (TS144_2 c) rfl) (by funext s h; kernel_rfl)
noncomputable def S144_4 (c : CF) (t2 t6 t7 : AV) (h : Heap) : Res := opt (loadX (some 7) t2 h) fun t44 => opt2 (c 38 [t44,t6] h) fun t46 h1 => opt (extractX t46 0) fun t47 => opt (extractX t46 1) fun t48 => opt2 (box (.agg [eL,nL]) h1) fun t11 h2 => optH (storeX 2 t11 t47 h2) fun h3 => S144_3 c t2 t6 t7 t11 h3
theorem TS144_4 (c : CF) : (rk P0 c 71 c144.s4).1 k144 [] k144 gK = L3 (S144_4 c) 2 6 7 := Eq.trans (seq_t (by kernel_rfl) (TS144_3 c) rfl) (by funext s h; kernel_rfl)
noncomputable def S144_5 (c : CF) (t2 t6 t7 : AV) (h : Heap) : Res := opt (fieldAddrX 0 t2) fun t24 => opt (fieldAddrX 0 t24) fun t25 => opt (loadX none t25 h) fun t26 => opt (fastBin .eql t6 t26) fun t27 => test t27 (opt (fieldAddrX 0 t2) fun t29 => opt (loadX (some 6) t29 h) fun t30 => opt2 (c 57 [t30,t7] h) fun t32 h1 => opt (extractX t32 0) fun t33 => opt (extractX t32 1) fun t34 => opt2 (box (.agg [(iL 0),eL,eL,nL]) h1) fun t9 h2 => optH (storeX 4 t9 t33 h2) fun h3 => opt (fieldAddrX 3 t9) fun t35 => opt (loadX none t35 h3) fun t36 => eqH h3 h3 (test t34 (opt (fieldAddrX 0 t9) fun t39 => opt (loadX none t39 h3) fun t40 => eqH h3 h3 (opt (fastBin .eql t40 (iL 1)) fun t41 => some ((.tup [t36,t41]),h3))) (some ((.tup [t36,fL]),h3)))) (S144_4 c t2 t6 t7 h)
theorem TS144_5 (c : CF) : (rk P0 c 71 c144.s3).1 k144 [] k144 gK = L3 (S144_5 c) 2 6 7 := Eq.trans (seq_t (by kernel_rfl) (TS144_4 c) rfl) (by funext s h; kernel_rfl)
noncomputable def S144_6 (c : CF) (t2 t6 t7 t8 : AV) (h : Heap) : Res := opt (notX t8) fun t22 => test t22 (some ((.tup [nL,fL]),h)) (S144_5 c t2 t6 t7 h)
theorem TS144_6 (c : CF) : (rk P0 c 71 c144.s2).1 k144 [] k144 gK = L4 (S144_6 c) 2 6 7 8 := Eq.trans (seq_t (by kernel_rfl) (TS144_5 c) rfl) (by funext s h; kernel_rfl)
noncomputable def S144_7 (c : CF) (t1 t2 : AV) (h : Heap) : Res := opt2 (c 188 [t1] h) fun t17 h1 => opt (extractX t17 0) fun t18 => opt (extractX t17 1) fun t19 => opt (extractX t17 2) fun t20 => S144_6 c t2 t18 t19 t20 h1
theorem TS144_7 (c : CF) : (rk P0 c 71 c144.snd).1 k144 [] k144 gK = L2 (S144_7 c) 1 2 := Eq.trans (seq_t (by kernel_rfl) (TS144_6 c) rfl) (by funext s h; kernel_rfl)
noncomputable def F144 (c : CF) (a0 a1 : AV) (h : Heap) : Res := opt2 (box a0 h) fun t2 h1 => S144_7 c a1 t2 h1
theorem TF144 (c : CF) (a0 a1 : AV) (h : Heap) : (rk P0 c 71 c144).1 k144 [] k144 gK (argsTr gl 0 [a0,a1]) h = F144 c a0 a1 h := Eq.trans (congrFun (congrFun (seq_t (by kernel_rfl) (TS144_7 c) rfl) _) _) (by kernel_rfl)
noncomputable def N144 : FnF := n2 F144
theorem N144_ok : FnOk P0 gl 144 N144 := n2_ok namesOk mixedOrders lowOk Tryz.func144 (by kernel_rfl) (by kernel_rfl) (by kernel_rfl) TF144
noncomputable def c145 : Code := codeOf Tryz.f145
noncomputable def k145 : Kt := finK P0 Tryz.f145.results.toList
noncomputable def S145_0 (c : CF) (t4 t13 : AV) (h : Heap) : Res := opt (loadX (some 4) t13 h) fun t70 => optH (storeX 4 t4 t70 h) fun h1 => opt (loadX (some 4) t4 h1) fun res => some ((.tup [res,tL]),h1)
theorem TS145_0 (c : CF) : (rk P0 c 71 c145.s6).1 k145 [] k145 gK = L2 (S145_0 c) 4 13 := by funext s h; kernel_rfl
noncomputable def S145_1 (c : CF) (t4 t13 t68 : AV) (h : Heap) : Res := test t68 (opt (buildX [(iL 0),eL,eL,nL] [(0,1),(1,1),(2,1),(3,1)] []) fun t69 => optH (storeX 4 t4 t69 h) fun h1 => opt (loadX (some 4) t4 h1) fun res => some ((.tup [res,fL]),h1)) (S145_0 c t4 t13 h)
theorem TS145_1 (c : CF) : (rk P0 c 71 c145.s5.fst.snd).1 (L2 (S145_0 c) 4 13) [] k145 gK = L3 (S145_1 c) 4 13 68 := by funext s h; kernel_rfl
noncomputable def S145_2 (c : CF) (t2 t4 t6 t7 t12 t13 t14 : AV) (h : Heap) : Res := opt (notX t12) fun t52 => test t52 (S145_1 c t4 t13 tL h) (opt (notX t14) fun t55 => test t55 (S145_1 c t4 t13 tL h) (opt (loadX (some 7) t2 h) fun t58 => opt2 (c 189 [t58,t6,t7] h) fun t61 h1 => opt (notX t61) fun t62 => test t62 (S145_1 c t4 t13 tL h1) (opt (fieldAddrX 0 t13) fun t65 => opt (loadX none t65 h1) fun t66 => opt (fastBin .eql t66 (iL 1)) fun t67 => S145_1 c t4 t13 t67 h1)))
theorem TS145_2 (c : CF) : (rk P0 c 71 c145.s5).1 k145 [] k145 gK = L7 (S145_2 c) 2 4 6 7 12 13 14 := Eq.trans (seq_t (by kernel_rfl) (TS145_0 c) (seq_t (by kernel_rfl) (TS145_1 c) rfl)) (by funext s h; kernel_rfl)
noncomputable def S145_3 (c : CF) (t2 t4 t6 t7 t11 t12 : AV) (h : Heap) : Res := opt (loadX (some 2) t11 h) fun t46 => opt2 (c 39 [t46,t7] h) fun t48 h1 => opt (extractX t48 0) fun t49 => opt (extractX t48 1) fun t50 => opt2 (box (.agg [(iL 0),eL,eL,nL]) h1) fun t13 h2 => optH (storeX 4 t13 t49 h2) fun h3 => S145_2 c t2 t4 t6 t7 t12 t13 t50 h3
theorem TS145_3 (c : CF) : (rk P0 c 71 c145.s4).1 k145 [] k145 gK = L6 (S145_3 c) 2 4 6 7 11 12 := Eq.trans (seq_t (by kernel_rfl) (TS145_2 c) rfl) (by funext s h; kernel_rfl)
noncomputable def S145_4 (c : CF) (t2 t4 t6 t7 : AV) (h : Heap) : Res := opt (loadX (some 7) t2 h) fun t40 => opt2 (c 38 [t40,t6] h) fun t42 h1 => opt (extractX t42 0) fun t43 => opt (extractX t42 1) fun t44 => opt2 (box (.agg [eL,nL]) h1) fun t11 h2 => optH (storeX 2 t11 t43 h2) fun h3 => S145_3 c t2 t4 t6 t7 t11 t44 h3
theorem TS145_4 (c : CF) : (rk P0 c 71 c145.s3).1 k145 [] k145 gK = L4 (S145_4 c) 2 4 6 7 := Eq.trans (seq_t (by kernel_rfl) (TS145_3 c) rfl) (by funext s h; kernel_rfl)
noncomputable def S145_5 (c : CF) (t4 t9 : AV) (h : Heap) : Res := opt (loadX (some 4) t9 h) fun t38 => optH (storeX 4 t4 t38 h) fun h1 => opt (loadX (some 4) t4 h1) fun res => some ((.tup [res,tL]),h1)
theorem TS145_5 (c : CF) : (rk P0 c 71 c145.s2.fst.snd.thn.s2).1 (L4 (S145_4 c) 2 4 6 7) [] k145 gK = L2 (S145_5 c) 4 9 := by funext s h; kernel_rfl
noncomputable def S145_6 (c : CF) (t4 t9 t36 : AV) (h : Heap) : Res := test t36 (opt (buildX [(iL 0),eL,eL,nL] [(0,1),(1,1),(2,1),(3,1)] []) fun t37 => optH (storeX 4 t4 t37 h) fun h1 => opt (loadX (some 4) t4 h1) fun res => some ((.tup [res,fL]),h1)) (S145_5 c t4 t9 h)
theorem TS145_6 (c : CF) : (rk P0 c 71 c145.s2.fst.snd.thn.snd.fst.snd).1 (L2 (S145_5 c) 4 9) [] k145 gK = L3 (S145_6 c) 4 9 36 := by funext s h; kernel_rfl
noncomputable def S145_7 (c : CF) (t4 t9 t10 : AV) (h : Heap) : Res := opt (notX t10) fun t31 => test t31 (S145_6 c t4 t9 tL h) (opt (fieldAddrX 0 t9) fun t33 => opt (loadX none t33 h) fun t34 => opt (fastBin .eql t34 (iL 1)) fun t35 => S145_6 c t4 t9 t35 h)
theorem TS145_7 (c : CF) : (rk P0 c 71 c145.s2.fst.snd.thn.snd).1 (L4 (S145_4 c) 2 4 6 7) [] k145 gK = L3 (S145_7 c) 4 9 10 := Eq.trans (seq_t (by kernel_rfl) (TS145_5 c) (seq_t (by kernel_rfl) (TS145_6 c) rfl)) (by funext s h; kernel_rfl)
noncomputable def S145_8 (c : CF) (t1 t2 t4 : AV) (h : Heap) : Res := opt (fieldAddrX 0 t2) fun t24 => opt (loadX (some 6) t24 h) fun t25 => opt2 (c 57 [t25,t1] h) fun t27 h1 => opt (extractX t27 0) fun t28 => opt (extractX t27 1) fun t29 => opt2 (box (.agg [(iL 0),eL,eL,nL]) h1) fun t9 h2 => optH (storeX 4 t9 t28 h2) fun h3 => S145_7 c t4 t9 t29 h3
theorem TS145_8 (c : CF) : (rk P0 c 71 c145.s2.fst.snd.thn).1 (L4 (S145_4 c) 2 4 6 7) [] k145 gK = L3 (S145_8 c) 1 2 4 := Eq.trans (seq_t (by kernel_rfl) (TS145_7 c) rfl) (by funext s h; kernel_rfl)
noncomputable def S145_9 (c : CF) (t1 t2 t4 t6 t7 t22 : AV) (h : Heap) : Res := test t22 (S145_8 c t1 t2 t4 h) (S145_4 c t2 t4 t6 t7 h)
theorem TS145_9 (c : CF) : (rk P0 c 71 c145.s2.fst.snd).1 (L4 (S145_4 c) 2 4 6 7) [] k145 gK = L6 (S145_9 c) 1 2 4 6 7 22 := Eq.trans (cond_t (by kernel_rfl) (TS145_8 c) rfl) (by funext s h; kernel_rfl)
noncomputable def S145_10 (c : CF) (t1 t2 t4 t6 t7 t8 : AV) (h : Heap) : Res := opt (notX t8) fun t22 => S145_9 c t1 t2 t4 t6 t7 t22 h
theorem TS145_10 (c : CF) : (rk P0 c 71 c145.s2).1 k145 [] k145 gK = L6 (S145_10 c) 1 2 4 6 7 8 := Eq.trans (seq_t (by kernel_rfl) (TS145_4 c) (seq_t (by kernel_rfl) (TS145_9 c) rfl)) (by funext s h; kernel_rfl)
noncomputable def S145_11 (c : CF) (t1 t2 t4 : AV) (h : Heap) : Res := opt2 (c 149 [t1] h) fun t17 h1 => opt (extractX t17 0) fun t18 => opt (extractX t17 1) fun t19 => opt (extractX t17 2) fun t20 => S145_10 c t1 t2 t4 t18 t19 t20 h1
theorem TS145_11 (c : CF) : (rk P0 c 71 c145.snd).1 k145 [] k145 gK = L3 (S145_11 c) 1 2 4 := Eq.trans (seq_t (by kernel_rfl) (TS145_10 c) rfl) (by funext s h; kernel_rfl)
noncomputable def F145 (c : CF) (a0 a1 : AV) (h : Heap) : Res := opt2 (box a0 h) fun t2 h1 => opt2 (box (.agg [(iL 0),eL,eL,nL]) h1) fun t4 h2 => S145_11 c a1 t2 t4 h2
theorem TF145 (c : CF) (a0 a1 : AV) (h : Heap) : (rk P0 c 71 c145).1 k145 [] k145 gK (argsTr gl 0 [a0,a1]) h = F145 c a0 a1 h := Eq.trans (congrFun (congrFun (seq_t (by kernel_rfl) (TS145_11 c) rfl) _) _) (by kernel_rfl)
noncomputable def N145 : FnF := n2 F145
theorem N145_ok : FnOk P0 gl 145 N145 := n2_ok namesOk mixedOrders lowOk Tryz.func145 (by kernel_rfl) (by kernel_rfl) (by kernel_rfl) TF145
noncomputable def c146 : Code := codeOf Tryz.f146
noncomputable def k146 : Kt := finK P0 Tryz.f146.results.toList
noncomputable def S146_0 (c : CF) (t3 t4 : AV) (h : Heap) : Res := test t4 (some ((iL 1),h)) (opt (fastBin .eql t3 (sL [99,117,116])) fun t11 => test t11 (some ((iL 3),h)) (some ((iL 2),h)))
theorem TS146_0 (c : CF) : (rk P0 c 12 c146.snd.fst.snd.bd.snd).1 ((rk P0 c 12 c146.s2).1 k146 [] k146 gK) [(0,((rk P0 c 12 c146.s2).1 k146 [] k146 gK))] k146 gK = L2 (S146_0 c) 3 4 := by funext s h; kernel_rfl
noncomputable def S146_1 (c : CF) (t3 : AV) (h : Heap) : Res := opt (fastBin .eql t3 (sL [110,101,103])) fun t5 => test t5 (S146_0 c t3 t5 h) (opt (fastBin .eql t3 (sL [99,111,110,106])) fun t6 => test t6 (S146_0 c t3 t6 h) (opt (fastBin .eql t3 (sL [114,101])) fun t7 => test t7 (S146_0 c t3 t7 h) (opt (fastBin .eql t3 (sL [105,109])) fun t8 => test t8 (S146_0 c t3 t8 h) (opt (fastBin .eql t3 (sL [108,101,110])) fun t9 => S146_0 c t3 t9 h))))
theorem TS146_1 (c : CF) : (rk P0 c 12 c146.snd.fst.snd).1 ((rk P0 c 12 c146.s2).1 k146 [] k146 gK) [] k146 gK = L1 (S146_1 c) 3 := Eq.trans (block_t (id := 0) (by kernel_rfl) (seq_t (by kernel_rfl) (TS146_0 c) rfl)) (by funext s h; kernel_rfl)
noncomputable def S146_2 (c : CF) (t0 : AV) (h : Heap) : Res := S146_1 c t0 h
theorem TS146_2 (c : CF) : (rk P0 c 12 c146.snd).1 k146 [] k146 gK = L1 (S146_2 c) 0 := Eq.trans (seq_t (by kernel_rfl) rfl (seq_t (by kernel_rfl) (TS146_1 c) rfl)) (by funext s h; kernel_rfl)
noncomputable def F146 (c : CF) (a0 : AV) (h : Heap) : Res := S146_2 c a0 h
theorem TF146 (c : CF) (a0 : AV) (h : Heap) : (rk P0 c 12 c146).1 k146 [] k146 gK (argsTr gl 0 [a0]) h = F146 c a0 h := Eq.trans (congrFun (congrFun (seq_t (by kernel_rfl) (TS146_2 c) rfl) _) _) (by kernel_rfl)
noncomputable def N146 : FnF := n1 F146
theorem N146_ok : FnOk P0 gl 146 N146 := n1_ok namesOk mixedOrders lowOk Tryz.func146 (by kernel_rfl) (by kernel_rfl) (by kernel_rfl) TF146
noncomputable def c147 : Code := codeOf Tryz.f147
noncomputable def k147 : Kt := finK P0 Tryz.f147.results.toList
noncomputable def F147 (c : CF) (a0 : AV) (h : Heap) : Res := opt2 (c 148 [a0] h) fun t7 h1 => opt (extractX t7 0) fun t8 => opt (extractX t7 1) fun t9 => some (t9,h1)
theorem TF147 (c : CF) (a0 : AV) (h : Heap) : (rk P0 c 11 c147).1 k147 [] k147 gK (argsTr gl 0 [a0]) h = F147 c a0 h := by kernel_rfl
noncomputable def N147 : FnF := n1 F147
theorem N147_ok : FnOk P0 gl 147 N147 := n1_ok namesOk mixedOrders lowOk Tryz.func147 (by kernel_rfl) (by kernel_rfl) (by kernel_rfl) TF147
noncomputable def c148 : Code := codeOf Tryz.f148
noncomputable def k148 : Kt := finK P0 Tryz.f148.results.toList
noncomputable def F148 (c : CF) (a0 : AV) (h : Heap) : Res := opt2 (c 170 [a0] h) fun t5 h1 => opt (fastBin .neq t5 (iL 2)) fun t6 => test t6 (some ((.tup [eL,fL]),h1)) (opt (lenStr a0) fun t9 => opt (fastBin .sub t9 (iL 1)) fun t10 => opt (fastCut a0 (some (iL 1)) (some t10) none) fun t11 => some ((.tup [t11,tL]),h1))
theorem TF148 (c : CF) (a0 : AV) (h : Heap) : (rk P0 c 12 c148).1 k148 [] k148 gK (argsTr gl 0 [a0]) h = F148 c a0 h := by kernel_rfl
noncomputable def N148 : FnF := n1 F148
theorem N148_ok : FnOk P0 gl 148 N148 := n1_ok namesOk mixedOrders lowOk Tryz.func148 (by kernel_rfl) (by kernel_rfl) (by kernel_rfl) TF148
noncomputable def c149 : Code := codeOf Tryz.f149
noncomputable def k149 : Kt := finK P0 Tryz.f149.results.toList
noncomputable def S149_0 (c : CF) (t0 : AV) (h : Heap) : Res := some ((.tup [t0,eL,fL]),h)
theorem TS149_0 (c : CF) : (rk P0 c 24 c149.s2).1 k149 [] k149 gK = L1 (S149_0 c) 0 := by funext s h; kernel_rfl
noncomputable def S149_2b (c : CF) (r1 : A2) (t0 t5 : AV) (h : Heap) : Res := opt (lenStr t0) fun t8 => opt (fastBin .lss t5 t8) fun t9 => test t9 (opt (fastIndex t0 t5) fun t14 => opt (fastBin .eql t14 (uL 46)) fun t15 => test t15 (opt (fastCut t0 none (some t5) none) fun t18 => eqH h h (opt (fastBin .add t5 (iL 1)) fun t21 => opt (fastCut t0 (some t21) none none) fun t22 => eqH h h (some ((.tup [t18,t22,tL]),h)))) (opt (fastBin .add t5 (iL 1)) fun t11 => r1 t0 t11 h)) (S149_0 c t0 h)
theorem TS149_2b (c : CF) (r1 : A2) : (rk P0 c 24 c149.snd.fst.snd.bd.bd).1 (L2 r1 0 5) [(0,(L1 (S149_0 c) 0))] k149 gK = L2 (S149_2b c r1) 0 5 := by funext s h; kernel_rfl
noncomputable def S149_1l (c : CF) : Nat → A2
  | 0 => fun _ _ _ => none
  | k + 1 => S149_2b c (S149_1l c k)
theorem TS149_1l (c : CF) : (rk P0 c 24 c149.snd.fst.snd.bd).1 (L1 (S149_0 c) 0) [(0,(L1 (S149_0 c) 0))] k149 gK = L2 (S149_1l c rounds) 0 5 := loop_t (by kernel_rfl) (loop_ind (A := fun m => L2 (S149_1l c m) 0 5) rfl (fun m => TS149_2b c (S149_1l c m)) rounds)
noncomputable def S149_3 (c : CF) (t0 t5 : AV) (h : Heap) : Res := S149_1l c rounds t0 t5 h
theorem TS149_3 (c : CF) : (rk P0 c 24 c149.snd.fst.snd).1 (L1 (S149_0 c) 0) [] k149 gK = L2 (S149_3 c) 0 5 := Eq.trans (block_t (id := 0) (by kernel_rfl) (TS149_1l c)) (by funext s h; kernel_rfl)
noncomputable def S149_4 (c : CF) (t0 : AV) (h : Heap) : Res := S149_3 c t0 (iL 0) h
theorem TS149_4 (c : CF) : (rk P0 c 24 c149.snd).1 k149 [] k149 gK = L1 (S149_4 c) 0 := Eq.trans (seq_t (by kernel_rfl) (TS149_0 c) (seq_t (by kernel_rfl) (TS149_3 c) rfl)) (by funext s h; kernel_rfl)
noncomputable def F149 (c : CF) (a0 : AV) (h : Heap) : Res := S149_4 c a0 h
theorem TF149 (c : CF) (a0 : AV) (h : Heap) : (rk P0 c 24 c149).1 k149 [] k149 gK (argsTr gl 0 [a0]) h = F149 c a0 h := Eq.trans (congrFun (congrFun (seq_t (by kernel_rfl) (TS149_4 c) rfl) _) _) (by kernel_rfl)
noncomputable def N149 : FnF := n1 F149
theorem N149_ok : FnOk P0 gl 149 N149 := n1_ok namesOk mixedOrders lowOk Tryz.func149 (by kernel_rfl) (by kernel_rfl) (by kernel_rfl) TF149
noncomputable def c150 : Code := codeOf Tryz.f150
noncomputable def k150 : Kt := finK P0 Tryz.f150.results.toList
noncomputable def F150 (c : CF) (a0 : AV) (h : Heap) : Res := opt (fastBin .eql a0 (uL 9)) fun t4 => test t4 (some (tL,h)) (opt (fastBin .eql a0 (uL 10)) fun t7 => test t7 (some (tL,h)) (opt (fastBin .eql a0 (uL 13)) fun t11 => test t11 (some (tL,h)) (opt (fastBin .eql a0 (uL 32)) fun t15 => some (t15,h))))
theorem TF150 (c : CF) (a0 : AV) (h : Heap) : (rk P0 c 17 c150).1 k150 [] k150 gK (argsTr gl 0 [a0]) h = F150 c a0 h := by kernel_rfl
noncomputable def N150 : FnF := n1 F150
theorem N150_ok : FnOk P0 gl 150 N150 := n1_ok namesOk mixedOrders lowOk Tryz.func150 (by kernel_rfl) (by kernel_rfl) (by kernel_rfl) TF150
noncomputable def c151 : Code := codeOf Tryz.f151
noncomputable def k151 : Kt := finK P0 Tryz.f151.results.toList
noncomputable def S151_0 (c : CF) (t0 t1 t8 t9 : AV) (h : Heap) : Res := opt (lenStr t0) fun t142 => opt (fastBin .geq t9 t142) fun t143 => test t143 (some ((.tup [eL,(iL 0),(iL 10),t1]),h)) (opt (lenStr t8) fun t146 => opt (fastBin .gtr t146 (iL 200)) fun t147 => test t147 (some ((.tup [eL,(iL 0),(iL 3),t1]),h)) (opt (fastBin .add t9 (iL 1)) fun t151 => some ((.tup [t8,t151,(iL 0),(iL 0)]),h)))
theorem TS151_0 (c : CF) : (rk P0 c 152 c151.s4).1 k151 [] k151 gK = L4 (S151_0 c) 0 1 8 9 := by funext s h; kernel_rfl
noncomputable def S151_2 (c : CF) (r1 : A4) (t0 t1 t8 t9 t92 : AV) (h : Heap) : Res := test t92 (opt (fastBin .add t9 (iL 2)) fun t124 => opt (fastIndex t0 t124) fun t125 => opt2 (c 190 [t125] h) fun t126 h1 => eqH h1 h (opt (fastBin .mul t126 (iL 16)) fun t127 => opt (fastBin .add t9 (iL 3)) fun t130 => opt (fastIndex t0 t130) fun t131 => opt2 (c 190 [t131] h) fun t132 h2 => eqH h2 h (opt (fastBin .add t127 t132) fun t133 => opt (convI .u8 t133) fun t134 => eqH h h (opt2 (bsliceX 1 (uL 0) 1 [(0,t134)] h) fun t135 h3 => eqH h3 h (opt (b2sX t135 h) fun t136 => eqH h h (opt (fastBin .add t8 t136) fun t137 => opt (fastBin .add t9 (iL 4)) fun t139 => r1 t0 t1 t137 t139 h)))))) (some ((.tup [eL,(iL 0),(iL 12),t9]),h))
theorem TS151_2 (c : CF) (r1 : A4) : (rk P0 c 152 c151.s3.fst.bd.bd.snd.bd.s3.bd.snd.els.snd.els.snd).1 (L4 r1 0 1 8 9) [(2,(L4 r1 0 1 8 9)),(1,(L4 r1 0 1 8 9)),(0,(L4 (S151_0 c) 0 1 8 9))] k151 gK = L5 (S151_2 c r1) 0 1 8 9 92 := by funext s h; kernel_rfl
noncomputable def S151_3 (c : CF) (r1 : A4) (t0 t1 t8 t9 : AV) (h : Heap) : Res := opt (fastBin .add t9 (iL 3)) fun t94 => opt (lenStr t0) fun t96 => opt (fastBin .lss t94 t96) fun t97 => test t97 (opt (fastBin .add t9 (iL 1)) fun t101 => opt (fastIndex t0 t101) fun t102 => opt (fastBin .eql t102 (uL 120)) fun t103 => test t103 (opt (fastBin .add t9 (iL 2)) fun t108 => opt (fastIndex t0 t108) fun t109 => opt2 (c 190 [t109] h) fun t110 h1 => opt (fastBin .geq t110 (iL 0)) fun t111 => test t111 (opt (fastBin .add t9 (iL 3)) fun t116 => opt (fastIndex t0 t116) fun t117 => opt2 (c 190 [t117] h1) fun t118 h2 => opt (fastBin .geq t118 (iL 0)) fun t119 => S151_2 c r1 t0 t1 t8 t9 t119 h2) (S151_2 c r1 t0 t1 t8 t9 fL h1)) (S151_2 c r1 t0 t1 t8 t9 fL h)) (S151_2 c r1 t0 t1 t8 t9 fL h)
theorem TS151_3 (c : CF) (r1 : A4) : (rk P0 c 152 c151.s3.fst.bd.bd.snd.bd.s3.bd.snd.els.snd.els).1 (L4 r1 0 1 8 9) [(2,(L4 r1 0 1 8 9)),(1,(L4 r1 0 1 8 9)),(0,(L4 (S151_0 c) 0 1 8 9))] k151 gK = L4 (S151_3 c r1) 0 1 8 9 := Eq.trans (seq_t (by kernel_rfl) (TS151_2 c r1) rfl) (by funext s h; kernel_rfl)
noncomputable def S151_4 (c : CF) (r1 : A4) (t0 t1 t8 t9 t75 : AV) (h : Heap) : Res := test t75 (opt (fastBin .add t8 (sL [10])) fun t89 => opt (fastBin .add t9 (iL 2)) fun t91 => r1 t0 t1 t89 t91 h) (S151_3 c r1 t0 t1 t8 t9 h)
theorem TS151_4 (c : CF) (r1 : A4) : (rk P0 c 152 c151.s3.fst.bd.bd.snd.bd.s3.bd.snd.els.snd).1 (L4 r1 0 1 8 9) [(2,(L4 r1 0 1 8 9)),(1,(L4 r1 0 1 8 9)),(0,(L4 (S151_0 c) 0 1 8 9))] k151 gK = L5 (S151_4 c r1) 0 1 8 9 75 := Eq.trans (cond_t (by kernel_rfl) rfl (TS151_3 c r1)) (by funext s h; kernel_rfl)
noncomputable def S151_5 (c : CF) (r1 : A4) (t0 t1 t8 t9 : AV) (h : Heap) : Res := opt (fastBin .add t9 (iL 1)) fun t77 => opt (lenStr t0) fun t79 => opt (fastBin .lss t77 t79) fun t80 => test t80 (opt (fastBin .add t9 (iL 1)) fun t84 => opt (fastIndex t0 t84) fun t85 => opt (fastBin .eql t85 (uL 110)) fun t86 => S151_4 c r1 t0 t1 t8 t9 t86 h) (S151_4 c r1 t0 t1 t8 t9 fL h)
theorem TS151_5 (c : CF) (r1 : A4) : (rk P0 c 152 c151.s3.fst.bd.bd.snd.bd.s3.bd.snd.els).1 (L4 r1 0 1 8 9) [(2,(L4 r1 0 1 8 9)),(1,(L4 r1 0 1 8 9)),(0,(L4 (S151_0 c) 0 1 8 9))] k151 gK = L4 (S151_5 c r1) 0 1 8 9 := Eq.trans (seq_t (by kernel_rfl) (TS151_4 c r1) rfl) (by funext s h; kernel_rfl)
noncomputable def S151_6 (c : CF) (r1 : A4) (t0 t1 t8 t9 t45 : AV) (h : Heap) : Res := test t45 (opt (fastBin .add t9 (iL 1)) fun t68 => opt (fastBin .add t9 (iL 2)) fun t70 => opt (fastCut t0 (some t68) (some t70) none) fun t71 => opt (fastBin .add t8 t71) fun t72 => opt (fastBin .add t9 (iL 2)) fun t74 => r1 t0 t1 t72 t74 h) (S151_5 c r1 t0 t1 t8 t9 h)
theorem TS151_6 (c : CF) (r1 : A4) : (rk P0 c 152 c151.s3.fst.bd.bd.snd.bd.s3.bd.snd).1 (L4 r1 0 1 8 9) [(2,(L4 r1 0 1 8 9)),(1,(L4 r1 0 1 8 9)),(0,(L4 (S151_0 c) 0 1 8 9))] k151 gK = L5 (S151_6 c r1) 0 1 8 9 45 := Eq.trans (cond_t (by kernel_rfl) rfl (TS151_5 c r1)) (by funext s h; kernel_rfl)
noncomputable def S151_7 (c : CF) (r1 : A4) (t0 t1 t8 t9 : AV) (h : Heap) : Res := opt (fastBin .add t9 (iL 1)) fun t47 => opt (lenStr t0) fun t49 => opt (fastBin .lss t47 t49) fun t50 => test t50 (opt (fastBin .add t9 (iL 1)) fun t54 => opt (fastIndex t0 t54) fun t55 => opt (fastBin .eql t55 (uL 34)) fun t56 => test t56 (S151_6 c r1 t0 t1 t8 t9 tL h) (opt (fastBin .add t9 (iL 1)) fun t60 => opt (fastIndex t0 t60) fun t61 => opt (fastBin .eql t61 (uL 92)) fun t62 => S151_6 c r1 t0 t1 t8 t9 t62 h)) (S151_6 c r1 t0 t1 t8 t9 fL h)
theorem TS151_7 (c : CF) (r1 : A4) : (rk P0 c 152 c151.s3.fst.bd.bd.snd.bd.s3).1 (L4 r1 0 1 8 9) [(1,(L4 r1 0 1 8 9)),(0,(L4 (S151_0 c) 0 1 8 9))] k151 gK = L4 (S151_7 c r1) 0 1 8 9 := Eq.trans (block_t (id := 2) (by kernel_rfl) (seq_t (by kernel_rfl) (TS151_6 c r1) rfl)) (by funext s h; kernel_rfl)
noncomputable def S151_8 (c : CF) (r1 : A4) (t0 t1 t8 t9 t10 : AV) (h : Heap) : Res := opt (fastBin .neq t10 (uL 92)) fun t34 => test t34 (opt (fastBin .add t9 (iL 1)) fun t39 => opt (fastCut t0 (some t9) (some t39) none) fun t40 => opt (fastBin .add t8 t40) fun t41 => opt (fastBin .add t9 (iL 1)) fun t43 => r1 t0 t1 t41 t43 h) (S151_7 c r1 t0 t1 t8 t9 h)
theorem TS151_8 (c : CF) (r1 : A4) : (rk P0 c 152 c151.s3.fst.bd.bd.snd.bd.s2).1 (L4 r1 0 1 8 9) [(1,(L4 r1 0 1 8 9)),(0,(L4 (S151_0 c) 0 1 8 9))] k151 gK = L5 (S151_8 c r1) 0 1 8 9 10 := Eq.trans (seq_t (by kernel_rfl) (TS151_7 c r1) rfl) (by funext s h; kernel_rfl)
noncomputable def S151_9 (c : CF) (r1 : A4) (t0 t1 t8 t9 t10 t31 : AV) (h : Heap) : Res := test t31 (some ((.tup [eL,(iL 0),(iL 12),t9]),h)) (S151_8 c r1 t0 t1 t8 t9 t10 h)
theorem TS151_9 (c : CF) (r1 : A4) : (rk P0 c 152 c151.s3.fst.bd.bd.snd.bd.snd.fst.snd).1 (L5 (S151_8 c r1) 0 1 8 9 10) [(1,(L4 r1 0 1 8 9)),(0,(L4 (S151_0 c) 0 1 8 9))] k151 gK = L6 (S151_9 c r1) 0 1 8 9 10 31 := by funext s h; kernel_rfl
noncomputable def S151_10 (c : CF) (r1 : A4) (t0 t1 t8 t9 t10 : AV) (h : Heap) : Res := opt (fastBin .lss t10 (uL 32)) fun t27 => test t27 (S151_9 c r1 t0 t1 t8 t9 t10 tL h) (opt (fastBin .gtr t10 (uL 126)) fun t30 => S151_9 c r1 t0 t1 t8 t9 t10 t30 h)
theorem TS151_10 (c : CF) (r1 : A4) : (rk P0 c 152 c151.s3.fst.bd.bd.snd.bd.snd).1 (L4 r1 0 1 8 9) [(1,(L4 r1 0 1 8 9)),(0,(L4 (S151_0 c) 0 1 8 9))] k151 gK = L5 (S151_10 c r1) 0 1 8 9 10 := Eq.trans (seq_t (by kernel_rfl) (TS151_8 c r1) (seq_t (by kernel_rfl) (TS151_9 c r1) rfl)) (by funext s h; kernel_rfl)
noncomputable def S151_11 (c : CF) (r1 : A4) (t0 t1 t8 t9 : AV) (h : Heap) : Res := opt (fastIndex t0 t9) fun t25 => S151_10 c r1 t0 t1 t8 t9 t25 h
theorem TS151_11 (c : CF) (r1 : A4) : (rk P0 c 152 c151.s3.fst.bd.bd.snd).1 (L4 r1 0 1 8 9) [(0,(L4 (S151_0 c) 0 1 8 9))] k151 gK = L4 (S151_11 c r1) 0 1 8 9 := Eq.trans (block_t (id := 1) (by kernel_rfl) (seq_t (by kernel_rfl) (TS151_10 c r1) rfl)) (by funext s h; kernel_rfl)
noncomputable def S151_12b (c : CF) (r1 : A4) (t0 t1 t8 t9 : AV) (h : Heap) : Res := opt (lenStr t0) fun t15 => opt (fastBin .lss t9 t15) fun t16 => test t16 (opt (fastIndex t0 t9) fun t20 => opt (fastBin .neq t20 (uL 34)) fun t21 => test t21 (S151_11 c r1 t0 t1 t8 t9 h) (S151_0 c t0 t1 t8 t9 h)) (S151_0 c t0 t1 t8 t9 h)
theorem TS151_12b (c : CF) (r1 : A4) : (rk P0 c 152 c151.s3.fst.bd.bd).1 (L4 r1 0 1 8 9) [(0,(L4 (S151_0 c) 0 1 8 9))] k151 gK = L4 (S151_12b c r1) 0 1 8 9 := Eq.trans (seq_t (by kernel_rfl) (TS151_11 c r1) rfl) (by funext s h; kernel_rfl)
noncomputable def S151_1l (c : CF) : Nat → A4
  | 0 => fun _ _ _ _ _ => none
  | k + 1 => S151_12b c (S151_1l c k)
theorem TS151_1l (c : CF) : (rk P0 c 152 c151.s3.fst.bd).1 (L4 (S151_0 c) 0 1 8 9) [(0,(L4 (S151_0 c) 0 1 8 9))] k151 gK = L4 (S151_1l c rounds) 0 1 8 9 := loop_t (by kernel_rfl) (loop_ind (A := fun m => L4 (S151_1l c m) 0 1 8 9) rfl (fun m => TS151_12b c (S151_1l c m)) rounds)
noncomputable def S151_13 (c : CF) (t0 t1 t8 t9 : AV) (h : Heap) : Res := S151_1l c rounds t0 t1 t8 t9 h
theorem TS151_13 (c : CF) : (rk P0 c 152 c151.s3).1 k151 [] k151 gK = L4 (S151_13 c) 0 1 8 9 := Eq.trans (seq_t (by kernel_rfl) (TS151_0 c) (block_t (id := 0) (by kernel_rfl) (TS151_1l c))) (by funext s h; kernel_rfl)
noncomputable def S151_14 (c : CF) (t0 t1 t8 : AV) (h : Heap) : Res := opt (fastBin .add t1 (iL 1)) fun t12 => S151_13 c t0 t1 t8 t12 h
theorem TS151_14 (c : CF) : (rk P0 c 152 c151.s2).1 k151 [] k151 gK = L3 (S151_14 c) 0 1 8 := Eq.trans (seq_t (by kernel_rfl) (TS151_13 c) rfl) (by funext s h; kernel_rfl)
noncomputable def S151_15 (c : CF) (t0 t1 : AV) (h : Heap) : Res := S151_14 c t0 t1 eL h
theorem TS151_15 (c : CF) : (rk P0 c 152 c151.snd).1 k151 [] k151 gK = L2 (S151_15 c) 0 1 := Eq.trans (seq_t (by kernel_rfl) (TS151_14 c) rfl) (by funext s h; kernel_rfl)
noncomputable def F151 (c : CF) (a0 a1 : AV) (h : Heap) : Res := S151_15 c a0 a1 h
theorem TF151 (c : CF) (a0 a1 : AV) (h : Heap) : (rk P0 c 152 c151).1 k151 [] k151 gK (argsTr gl 0 [a0,a1]) h = F151 c a0 a1 h := Eq.trans (congrFun (congrFun (seq_t (by kernel_rfl) (TS151_15 c) rfl) _) _) (by kernel_rfl)
noncomputable def N151 : FnF := n2 F151
theorem N151_ok : FnOk P0 gl 151 N151 := n2_ok namesOk mixedOrders lowOk Tryz.func151 (by kernel_rfl) (by kernel_rfl) (by kernel_rfl) TF151
noncomputable def c152 : Code := codeOf Tryz.f152
noncomputable def k152 : Kt := finK P0 Tryz.f152.results.toList
noncomputable def S152_0 (c : CF) (h : Heap) : Res := some (fL,h)
theorem TS152_0 (c : CF) : (rk P0 c 20 c152.s3).1 k152 [] k152 gK = L0 (S152_0 c) := by funext s h; kernel_rfl
noncomputable def S152_2b (c : CF) (r1 : A3) (t0 t3 t4 : AV) (h : Heap) : Res := opt (lenS t3) fun t10 => opt (fastBin .lss t4 t10) fun t11 => test t11 (opt (indexAddrS 1 t3 t4 h) fun t16 => opt (loadX none t16 h) fun t17 => opt (fastBin .eql t17 t0) fun t19 => test t19 (some (tL,h)) (opt (fastBin .add t4 (iL 1)) fun t13 => r1 t0 t3 t13 h)) (S152_0 c h)
theorem TS152_2b (c : CF) (r1 : A3) : (rk P0 c 20 c152.s2.fst.snd.bd.bd).1 (L3 r1 0 3 4) [(0,(L0 (S152_0 c)))] k152 gK = L3 (S152_2b c r1) 0 3 4 := by funext s h; kernel_rfl
noncomputable def S152_1l (c : CF) : Nat → A3
  | 0 => fun _ _ _ _ => none
  | k + 1 => S152_2b c (S152_1l c k)
theorem TS152_1l (c : CF) : (rk P0 c 20 c152.s2.fst.snd.bd).1 (L0 (S152_0 c)) [(0,(L0 (S152_0 c)))] k152 gK = L3 (S152_1l c rounds) 0 3 4 := loop_t (by kernel_rfl) (loop_ind (A := fun m => L3 (S152_1l c m) 0 3 4) rfl (fun m => TS152_2b c (S152_1l c m)) rounds)
noncomputable def S152_3 (c : CF) (t0 t3 t4 : AV) (h : Heap) : Res := S152_1l c rounds t0 t3 t4 h
theorem TS152_3 (c : CF) : (rk P0 c 20 c152.s2.fst.snd).1 (L0 (S152_0 c)) [] k152 gK = L3 (S152_3 c) 0 3 4 := Eq.trans (block_t (id := 0) (by kernel_rfl) (TS152_1l c)) (by funext s h; kernel_rfl)
noncomputable def S152_4 (c : CF) (t0 t3 : AV) (h : Heap) : Res := S152_3 c t0 t3 (iL 0) h
theorem TS152_4 (c : CF) : (rk P0 c 20 c152.s2).1 k152 [] k152 gK = L2 (S152_4 c) 0 3 := Eq.trans (seq_t (by kernel_rfl) (TS152_0 c) (seq_t (by kernel_rfl) (TS152_3 c) rfl)) (by funext s h; kernel_rfl)
noncomputable def S152_5 (c : CF) (t0 : AV) (h : Heap) : Res := opt2 (c 191 [] h) fun t5 h1 => opt2 (bsliceX 1 eL 14 [(0,(sL [108,101,116])),(1,(sL [105,102])),(2,(sL [97,114,114,97,121])),(3,(sL [109,97,116,99,104])),(4,(sL [102,110])),(5,(sL [99,97,108,108])),(6,(sL [110,117,109])),(7,(sL [98,121,116,101,115])),(8,(sL [109,111,100,117,108,101])),(9,(sL [105,109,112,111,114,116])),(10,(sL [101,120,112,111,114,116])),(11,(sL [116,121,112,101])),(12,(sL [99,111,110,115,116])),(13,(sL [102,117,110]))] h1) fun t6 h2 => opt2 (appendX 1 16 t5 t6 h2) fun t7 h3 => S152_4 c t0 t7 h3
theorem TS152_5 (c : CF) : (rk P0 c 20 c152.snd).1 k152 [] k152 gK = L1 (S152_5 c) 0 := Eq.trans (seq_t (by kernel_rfl) (TS152_4 c) rfl) (by funext s h; kernel_rfl)
noncomputable def F152 (c : CF) (a0 : AV) (h : Heap) : Res := S152_5 c a0 h
theorem TF152 (c : CF) (a0 : AV) (h : Heap) : (rk P0 c 20 c152).1 k152 [] k152 gK (argsTr gl 0 [a0]) h = F152 c a0 h := Eq.trans (congrFun (congrFun (seq_t (by kernel_rfl) (TS152_5 c) rfl) _) _) (by kernel_rfl)
noncomputable def N152 : FnF := n1 F152
theorem N152_ok : FnOk P0 gl 152 N152 := n1_ok namesOk mixedOrders lowOk Tryz.func152 (by kernel_rfl) (by kernel_rfl) (by kernel_rfl) TF152
noncomputable def c153 : Code := codeOf Tryz.f153
noncomputable def k153 : Kt := finK P0 Tryz.f153.results.toList
noncomputable def F153 (c : CF) (a0 a1 : AV) (h : Heap) : Res := opt2 (box a0 h) fun t2 h1 => opt (loadX (some 4) t2 h1) fun t11 => opt2 (c 192 [t11,a1] h1) fun t13 h2 => opt (extractX t13 0) fun t14 => opt (extractX t13 1) fun t15 => opt (extractX t13 2) fun t16 => opt (fastBin .neq t15 (iL 0)) fun t18 => test t18 (some ((.tup [eL,t15,t16]),h2)) (some ((.tup [t14,(iL 0),(iL 0)]),h2))
theorem TF153 (c : CF) (a0 a1 : AV) (h : Heap) : (rk P0 c 22 c153).1 k153 [] k153 gK (argsTr gl 0 [a0,a1]) h = F153 c a0 a1 h := by kernel_rfl
noncomputable def N153 : FnF := n2 F153
theorem N153_ok : FnOk P0 gl 153 N153 := n2_ok namesOk mixedOrders lowOk Tryz.func153 (by kernel_rfl) (by kernel_rfl) (by kernel_rfl) TF153
noncomputable def c154 : Code := codeOf Tryz.f154
noncomputable def k154 : Kt := finK P0 Tryz.f154.results.toList
noncomputable def S154_0 (c : CF) (t5 t8 : AV) (h : Heap) : Res := opt2 (c 194 [t5,t8] h) fun t75 h1 => opt (extractX t75 0) fun t76 => opt (extractX t75 1) fun t77 => some ((.tup [t76,t77]),h1)
theorem TS154_0 (c : CF) : (rk P0 c 78 c154.s9).1 k154 [] k154 gK = L2 (S154_0 c) 5 8 := by funext s h; kernel_rfl
noncomputable def S154_1 (c : CF) (t5 t6 t8 : AV) (h : Heap) : Res := opt (fastIndex t6 (iL 0)) fun t69 => opt (fastBin .eql t69 (uL 45)) fun t70 => test t70 (opt (litUn P0 .neg t8) fun t72 => S154_0 c t5 t72 h) (S154_0 c t5 t8 h)
theorem TS154_1 (c : CF) : (rk P0 c 78 c154.s8).1 k154 [] k154 gK = L3 (S154_1 c) 5 6 8 := Eq.trans (seq_t (by kernel_rfl) (TS154_0 c) rfl) (by funext s h; kernel_rfl)
noncomputable def S154_2 (c : CF) (t5 t6 t8 t67 : AV) (h : Heap) : Res := test t67 (some ((.tup [cL,fL]),h)) (S154_1 c t5 t6 t8 h)
theorem TS154_2 (c : CF) : (rk P0 c 78 c154.s7.fst.snd).1 (L3 (S154_1 c) 5 6 8) [] k154 gK = L4 (S154_2 c) 5 6 8 67 := by funext s h; kernel_rfl
noncomputable def S154_3 (c : CF) (t5 t6 t8 t9 t10 : AV) (h : Heap) : Res := opt (notX t10) fun t63 => test t63 (S154_2 c t5 t6 t8 tL h) (opt (fastBin .neq t9 (sL [105])) fun t66 => S154_2 c t5 t6 t8 t66 h)
theorem TS154_3 (c : CF) : (rk P0 c 78 c154.s7).1 k154 [] k154 gK = L5 (S154_3 c) 5 6 8 9 10 := Eq.trans (seq_t (by kernel_rfl) (TS154_1 c) (seq_t (by kernel_rfl) (TS154_2 c) rfl)) (by funext s h; kernel_rfl)
noncomputable def S154_4 (c : CF) (t5 t6 : AV) (h : Heap) : Res := opt (fastCut t6 (some (iL 1)) none none) fun t57 => opt2 (c 193 [t57] h) fun t58 h1 => opt (extractX t58 0) fun t59 => opt (extractX t58 1) fun t60 => opt (extractX t58 2) fun t61 => S154_3 c t5 t6 t59 t60 t61 h1
theorem TS154_4 (c : CF) : (rk P0 c 78 c154.s6).1 k154 [] k154 gK = L2 (S154_4 c) 5 6 := Eq.trans (seq_t (by kernel_rfl) (TS154_3 c) rfl) (by funext s h; kernel_rfl)
noncomputable def S154_5 (c : CF) (t5 t6 t46 : AV) (h : Heap) : Res := test t46 (some ((.tup [cL,fL]),h)) (S154_4 c t5 t6 h)
theorem TS154_5 (c : CF) : (rk P0 c 78 c154.s5.fst.bd.snd.els.snd.els.snd.els.snd).1 (L2 (S154_4 c) 5 6) [(0,(L2 (S154_4 c) 5 6))] k154 gK = L3 (S154_5 c) 5 6 46 := by funext s h; kernel_rfl
noncomputable def S154_6 (c : CF) (t5 t6 : AV) (h : Heap) : Res := opt (fastIndex t6 (iL 0)) fun t48 => opt (fastBin .neq t48 (uL 43)) fun t49 => test t49 (opt (fastIndex t6 (iL 0)) fun t52 => opt (fastBin .neq t52 (uL 45)) fun t53 => S154_5 c t5 t6 t53 h) (S154_5 c t5 t6 fL h)
theorem TS154_6 (c : CF) : (rk P0 c 78 c154.s5.fst.bd.snd.els.snd.els.snd.els).1 (L2 (S154_4 c) 5 6) [(0,(L2 (S154_4 c) 5 6))] k154 gK = L2 (S154_6 c) 5 6 := Eq.trans (seq_t (by kernel_rfl) (TS154_5 c) rfl) (by funext s h; kernel_rfl)
noncomputable def S154_7 (c : CF) (t5 t6 t39 : AV) (h : Heap) : Res := test t39 (opt2 (c 194 [(iL 0),t5] h) fun t43 h1 => opt (extractX t43 0) fun t44 => opt (extractX t43 1) fun t45 => some ((.tup [t44,t45]),h1)) (S154_6 c t5 t6 h)
theorem TS154_7 (c : CF) : (rk P0 c 78 c154.s5.fst.bd.snd.els.snd.els.snd).1 (L2 (S154_4 c) 5 6) [(0,(L2 (S154_4 c) 5 6))] k154 gK = L3 (S154_7 c) 5 6 39 := Eq.trans (cond_t (by kernel_rfl) rfl (TS154_6 c)) (by funext s h; kernel_rfl)
noncomputable def S154_8 (c : CF) (t5 t6 : AV) (h : Heap) : Res := opt (fastBin .eql t6 (sL [105])) fun t41 => S154_7 c t5 t6 t41 h
theorem TS154_8 (c : CF) : (rk P0 c 78 c154.s5.fst.bd.snd.els.snd.els).1 (L2 (S154_4 c) 5 6) [(0,(L2 (S154_4 c) 5 6))] k154 gK = L2 (S154_8 c) 5 6 := Eq.trans (seq_t (by kernel_rfl) (TS154_7 c) rfl) (by funext s h; kernel_rfl)
noncomputable def S154_9 (c : CF) (t5 t6 t32 : AV) (h : Heap) : Res := test t32 (opt2 (c 194 [t5,(iL 0)] h) fun t36 h1 => opt (extractX t36 0) fun t37 => opt (extractX t36 1) fun t38 => some ((.tup [t37,t38]),h1)) (S154_8 c t5 t6 h)
theorem TS154_9 (c : CF) : (rk P0 c 78 c154.s5.fst.bd.snd.els.snd).1 (L2 (S154_4 c) 5 6) [(0,(L2 (S154_4 c) 5 6))] k154 gK = L3 (S154_9 c) 5 6 32 := Eq.trans (cond_t (by kernel_rfl) rfl (TS154_8 c)) (by funext s h; kernel_rfl)
noncomputable def S154_10 (c : CF) (t5 t6 : AV) (h : Heap) : Res := opt (fastBin .eql t6 eL) fun t34 => S154_9 c t5 t6 t34 h
theorem TS154_10 (c : CF) : (rk P0 c 78 c154.s5.fst.bd.snd.els).1 (L2 (S154_4 c) 5 6) [(0,(L2 (S154_4 c) 5 6))] k154 gK = L2 (S154_10 c) 5 6 := Eq.trans (seq_t (by kernel_rfl) (TS154_9 c) rfl) (by funext s h; kernel_rfl)
noncomputable def S154_11 (c : CF) (t5 t6 t29 : AV) (h : Heap) : Res := test t29 (some ((.tup [cL,fL]),h)) (S154_10 c t5 t6 h)
theorem TS154_11 (c : CF) : (rk P0 c 78 c154.s5.fst.bd.snd).1 (L2 (S154_4 c) 5 6) [(0,(L2 (S154_4 c) 5 6))] k154 gK = L3 (S154_11 c) 5 6 29 := Eq.trans (cond_t (by kernel_rfl) rfl (TS154_10 c)) (by funext s h; kernel_rfl)
noncomputable def S154_12 (c : CF) (t5 t6 t7 : AV) (h : Heap) : Res := opt (notX t7) fun t31 => S154_11 c t5 t6 t31 h
theorem TS154_12 (c : CF) : (rk P0 c 78 c154.s5).1 k154 [] k154 gK = L3 (S154_12 c) 5 6 7 := Eq.trans (seq_t (by kernel_rfl) (TS154_4 c) (block_t (id := 0) (by kernel_rfl) (seq_t (by kernel_rfl) (TS154_11 c) rfl))) (by funext s h; kernel_rfl)
noncomputable def S154_13 (c : CF) (t4 t5 t6 t7 : AV) (h : Heap) : Res := opt (fastBin .mul t5 t4) fun t28 => S154_12 c t28 t6 t7 h
theorem TS154_13 (c : CF) : (rk P0 c 78 c154.s4).1 k154 [] k154 gK = L4 (S154_13 c) 4 5 6 7 := Eq.trans (seq_t (by kernel_rfl) (TS154_12 c) rfl) (by funext s h; kernel_rfl)
noncomputable def S154_14 (c : CF) (t0 t4 : AV) (h : Heap) : Res := opt2 (c 193 [t0] h) fun t22 h1 => opt (extractX t22 0) fun t23 => opt (extractX t22 1) fun t24 => opt (extractX t22 2) fun t25 => S154_13 c t4 t23 t24 t25 h1
theorem TS154_14 (c : CF) : (rk P0 c 78 c154.s3).1 k154 [] k154 gK = L2 (S154_14 c) 0 4 := Eq.trans (seq_t (by kernel_rfl) (TS154_13 c) rfl) (by funext s h; kernel_rfl)
noncomputable def S154_15 (c : CF) (t0 t4 t17 : AV) (h : Heap) : Res := test t17 (opt (fastCut t0 (some (iL 1)) none none) fun t19 => S154_14 c t19 (iL (-1)) h) (S154_14 c t0 t4 h)
theorem TS154_15 (c : CF) : (rk P0 c 78 c154.s2.fst.snd).1 (L2 (S154_14 c) 0 4) [] k154 gK = L3 (S154_15 c) 0 4 17 := by funext s h; kernel_rfl
noncomputable def S154_16 (c : CF) (t0 t4 : AV) (h : Heap) : Res := opt (fastBin .neq t0 eL) fun t12 => test t12 (opt (fastIndex t0 (iL 0)) fun t15 => opt (fastBin .eql t15 (uL 45)) fun t16 => S154_15 c t0 t4 t16 h) (S154_15 c t0 t4 fL h)
theorem TS154_16 (c : CF) : (rk P0 c 78 c154.s2).1 k154 [] k154 gK = L2 (S154_16 c) 0 4 := Eq.trans (seq_t (by kernel_rfl) (TS154_14 c) (seq_t (by kernel_rfl) (TS154_15 c) rfl)) (by funext s h; kernel_rfl)
noncomputable def S154_17 (c : CF) (t0 : AV) (h : Heap) : Res := S154_16 c t0 (iL 1) h
theorem TS154_17 (c : CF) : (rk P0 c 78 c154.snd).1 k154 [] k154 gK = L1 (S154_17 c) 0 := Eq.trans (seq_t (by kernel_rfl) (TS154_16 c) rfl) (by funext s h; kernel_rfl)
noncomputable def F154 (c : CF) (a0 : AV) (h : Heap) : Res := S154_17 c a0 h
theorem TF154 (c : CF) (a0 : AV) (h : Heap) : (rk P0 c 78 c154).1 k154 [] k154 gK (argsTr gl 0 [a0]) h = F154 c a0 h := Eq.trans (congrFun (congrFun (seq_t (by kernel_rfl) (TS154_17 c) rfl) _) _) (by kernel_rfl)
noncomputable def N154 : FnF := n1 F154
theorem N154_ok : FnOk P0 gl 154 N154 := n1_ok namesOk mixedOrders lowOk Tryz.func154 (by kernel_rfl) (by kernel_rfl) (by kernel_rfl) TF154
noncomputable def c155 : Code := codeOf Tryz.f155
noncomputable def k155 : Kt := finK P0 Tryz.f155.results.toList
noncomputable def F155 (c : CF) (a0 a1 : AV) (h : Heap) : Res := opt2 (c 149 [a0] h) fun t10 h1 => opt (extractX t10 0) fun t11 => opt (extractX t10 1) fun t12 => opt (extractX t10 2) fun t13 => test t13 (opt2 (c 46 [t11] h1) fun t17 h2 => test t17 (test a1 (opt2 (c 97 [t12] h2) fun t23 h3 => test t23 (some (tL,h3)) (opt (notX a1) fun t27 => test t27 (opt2 (c 46 [t12] h3) fun t30 h4 => some (t30,h4)) (some (fL,h3)))) (opt (notX a1) fun t27_1 => test t27_1 (opt2 (c 46 [t12] h2) fun t30_1 h5 => some (t30_1,h5)) (some (fL,h2)))) (some (fL,h2))) (some (fL,h1))
theorem TF155 (c : CF) (a0 a1 : AV) (h : Heap) : (rk P0 c 34 c155).1 k155 [] k155 gK (argsTr gl 0 [a0,a1]) h = F155 c a0 a1 h := by kernel_rfl
noncomputable def N155 : FnF := n2 F155
theorem N155_ok : FnOk P0 gl 155 N155 := n2_ok namesOk mixedOrders lowOk Tryz.func155 (by kernel_rfl) (by kernel_rfl) (by kernel_rfl) TF155
end Go.Proofs.YtngiokdbbjbpfaaGreat
