import Derived.Test.YtifeckgncimonaaGreatDoorG61
namespace Go.Proofs.YtifeckgncimonaaGreatDoor
open Go.Am
set_option maxRecDepth 100000
set_option linter.unusedSimpArgs false
set_option linter.unusedVariables false
noncomputable def c179 : Code := codeOf Tryz.f179
noncomputable def k179 : Kt := finK P0 Tryz.f179.results.toList
noncomputable def S179_0 (c : CF) (h : Heap) : Res := some ((iL (-1)),h)
theorem TS179_0 (c : CF) : (rk P0 c 143 c179.s9).1 k179 [] k179 gK = L0 (S179_0 c) := by funext s h; kernel_rfl
noncomputable def S179_2 (c : CF) (r1 : A9) (t0 t1 t5 t6 t7 t8 t9 t10 t132 g1 : AV) (h : Heap) : Res := test t132 (opt (fastCut t0 (some t8) none none) fun t135 => opt2 (c 195 [t135,t1] h) fun t137 h1 => opt (fastBin .lss t137 (iL 0)) fun t139 => test t139 (some ((iL (-1)),h1)) (opt (fastBin .add t8 t137) fun t142 => some (t142,h1))) (r1 t0 t1 t5 t6 t7 t8 t9 t10 g1 h)
theorem TS179_2 (c : CF) (r1 : A9) : (rk P0 c 143 c179.s8.fst.bd.bd.snd.bd.s5.els.snd).1 (L9 r1 0 1 5 6 7 8 9 10 4294967298) [(2,(L9 r1 0 1 5 6 7 8 9 10 4294967298)),(1,(L0 (S179_0 c)))] k179 gK = L10 (S179_2 c r1) 0 1 5 6 7 8 9 10 132 4294967298 := by funext s h; kernel_rfl
noncomputable def S179_3 (c : CF) (r1 : A9) (t0 t1 t5 t6 t7 t8 t9 t10 g1 : AV) (h : Heap) : Res := opt (loadX none (globOf 1 g1) h) fun t119 => opt (fastBin .gtr t5 t119) fun t120 => test t120 (opt (binX P0 .none .shr 3 t8 (.lit (.int .u64 4))) fun t124 => opt (fastBin .add (iL 4) t124) fun t125 => opt (fastBin .geq t10 t125) fun t126 => test t126 (opt (fastBin .lss t8 t9) fun t131 => S179_2 c r1 t0 t1 t5 t6 t7 t8 t9 t10 t131 g1 h) (S179_2 c r1 t0 t1 t5 t6 t7 t8 t9 t10 fL g1 h)) (S179_2 c r1 t0 t1 t5 t6 t7 t8 t9 t10 fL g1 h)
theorem TS179_3 (c : CF) (r1 : A9) : (rk P0 c 143 c179.s8.fst.bd.bd.snd.bd.s5.els).1 (L9 r1 0 1 5 6 7 8 9 10 4294967298) [(2,(L9 r1 0 1 5 6 7 8 9 10 4294967298)),(1,(L0 (S179_0 c)))] k179 gK = L9 (S179_3 c r1) 0 1 5 6 7 8 9 10 4294967298 := Eq.trans (seq_t (by kernel_rfl) (TS179_2 c r1) rfl) (by funext s h; kernel_rfl)
noncomputable def S179_4 (c : CF) (r1 : A9) (t0 t1 t5 t6 t7 t8 t9 t10 t107 g1 : AV) (h : Heap) : Res := test t107 (opt (fastCut t0 (some t8) none none) fun t110 => opt (litCall P0 [t110,t1] 194) fun t112 => opt (fastBin .geq t112 (iL 0)) fun t114 => test t114 (opt (fastBin .add t112 t8) fun t117 => some (t117,h)) (some ((iL (-1)),h))) (S179_3 c r1 t0 t1 t5 t6 t7 t8 t9 t10 g1 h)
theorem TS179_4 (c : CF) (r1 : A9) : (rk P0 c 143 c179.s8.fst.bd.bd.snd.bd.s5).1 (L9 r1 0 1 5 6 7 8 9 10 4294967298) [(2,(L9 r1 0 1 5 6 7 8 9 10 4294967298)),(1,(L0 (S179_0 c)))] k179 gK = L10 (S179_4 c r1) 0 1 5 6 7 8 9 10 107 4294967298 := Eq.trans (cond_t (by kernel_rfl) rfl (TS179_3 c r1)) (by funext s h; kernel_rfl)
noncomputable def S179_5 (c : CF) (r1 : A9) (t0 t1 t5 t6 t7 t8 t9 t10 g1 : AV) (h : Heap) : Res := opt (loadX none (globOf 1 g1) h) fun t100 => opt (fastBin .leq t5 t100) fun t101 => test t101 (opt2 (c 193 [t8] h) fun t105 h1 => opt (fastBin .gtr t10 t105) fun t106 => S179_4 c r1 t0 t1 t5 t6 t7 t8 t9 t10 t106 g1 h1) (S179_4 c r1 t0 t1 t5 t6 t7 t8 t9 t10 fL g1 h)
theorem TS179_5 (c : CF) (r1 : A9) : (rk P0 c 143 c179.s8.fst.bd.bd.snd.bd.s4).1 (L9 r1 0 1 5 6 7 8 9 10 4294967298) [(2,(L9 r1 0 1 5 6 7 8 9 10 4294967298)),(1,(L0 (S179_0 c)))] k179 gK = L9 (S179_5 c r1) 0 1 5 6 7 8 9 10 4294967298 := Eq.trans (seq_t (by kernel_rfl) (TS179_4 c r1) rfl) (by funext s h; kernel_rfl)
noncomputable def S179_6 (c : CF) (r1 : A9) (t0 t1 t5 t6 t7 t8 t9 t10 g1 : AV) (h : Heap) : Res := opt (fastBin .add t10 (iL 1)) fun t98 => S179_5 c r1 t0 t1 t5 t6 t7 t8 t9 t98 g1 h
theorem TS179_6 (c : CF) (r1 : A9) : (rk P0 c 143 c179.s8.fst.bd.bd.snd.bd.s3).1 (L9 r1 0 1 5 6 7 8 9 10 4294967298) [(2,(L9 r1 0 1 5 6 7 8 9 10 4294967298)),(1,(L0 (S179_0 c)))] k179 gK = L9 (S179_6 c r1) 0 1 5 6 7 8 9 10 4294967298 := Eq.trans (seq_t (by kernel_rfl) (TS179_5 c r1) rfl) (by funext s h; kernel_rfl)
noncomputable def S179_7 (c : CF) (r1 : A9) (t0 t1 t5 t6 t7 t8 t9 t10 g1 : AV) (h : Heap) : Res := opt (fastBin .add t8 (iL 1)) fun t96 => S179_6 c r1 t0 t1 t5 t6 t7 t96 t9 t10 g1 h
theorem TS179_7 (c : CF) (r1 : A9) : (rk P0 c 143 c179.s8.fst.bd.bd.snd.bd.s2).1 (L9 r1 0 1 5 6 7 8 9 10 4294967298) [(2,(L9 r1 0 1 5 6 7 8 9 10 4294967298)),(1,(L0 (S179_0 c)))] k179 gK = L9 (S179_7 c r1) 0 1 5 6 7 8 9 10 4294967298 := Eq.trans (seq_t (by kernel_rfl) (TS179_6 c r1) rfl) (by funext s h; kernel_rfl)
noncomputable def S179_8 (c : CF) (r1 : A9) (t0 t1 t5 t6 t7 t8 t9 t10 t93 g1 : AV) (h : Heap) : Res := test t93 (some (t8,h)) (S179_7 c r1 t0 t1 t5 t6 t7 t8 t9 t10 g1 h)
theorem TS179_8 (c : CF) (r1 : A9) : (rk P0 c 143 c179.s8.fst.bd.bd.snd.bd.snd.fst.snd).1 (L9 (S179_7 c r1) 0 1 5 6 7 8 9 10 4294967298) [(2,(L9 r1 0 1 5 6 7 8 9 10 4294967298)),(1,(L0 (S179_0 c)))] k179 gK = L10 (S179_8 c r1) 0 1 5 6 7 8 9 10 93 4294967298 := by funext s h; kernel_rfl
noncomputable def S179_9 (c : CF) (r1 : A9) (t0 t1 t5 t6 t7 t8 t9 t10 g1 : AV) (h : Heap) : Res := opt (fastBin .add t8 (iL 1)) fun t80 => opt (fastIndex t0 t80) fun t81 => opt (fastBin .eql t81 t7) fun t83 => test t83 (opt (fastBin .add t8 t5) fun t89 => opt (fastCut t0 (some t8) (some t89) none) fun t90 => opt (fastBin .eql t90 t1) fun t92 => S179_8 c r1 t0 t1 t5 t6 t7 t8 t9 t10 t92 g1 h) (S179_8 c r1 t0 t1 t5 t6 t7 t8 t9 t10 fL g1 h)
theorem TS179_9 (c : CF) (r1 : A9) : (rk P0 c 143 c179.s8.fst.bd.bd.snd.bd.snd).1 (L9 r1 0 1 5 6 7 8 9 10 4294967298) [(2,(L9 r1 0 1 5 6 7 8 9 10 4294967298)),(1,(L0 (S179_0 c)))] k179 gK = L9 (S179_9 c r1) 0 1 5 6 7 8 9 10 4294967298 := Eq.trans (seq_t (by kernel_rfl) (TS179_7 c r1) (seq_t (by kernel_rfl) (TS179_8 c r1) rfl)) (by funext s h; kernel_rfl)
noncomputable def S179_10 (c : CF) (r1 : A9) (t0 t1 t5 t6 t7 t8 t9 t10 g1 : AV) (h : Heap) : Res := opt (fastIndex t0 t8) fun t62 => opt (fastBin .neq t62 t6) fun t64 => test t64 (opt (fastBin .add t8 (iL 1)) fun t67 => opt (fastCut t0 (some t67) (some t9) none) fun t69 => opt2 (c 127 [t69,t6] h) fun t71 h1 => opt (fastBin .lss t71 (iL 0)) fun t73 => test t73 (some ((iL (-1)),h1)) (opt (fastBin .add t71 (iL 1)) fun t76 => opt (fastBin .add t8 t76) fun t77 => S179_9 c r1 t0 t1 t5 t6 t7 t77 t9 t10 g1 h1)) (S179_9 c r1 t0 t1 t5 t6 t7 t8 t9 t10 g1 h)
theorem TS179_10 (c : CF) (r1 : A9) : (rk P0 c 143 c179.s8.fst.bd.bd.snd).1 (L9 r1 0 1 5 6 7 8 9 10 4294967298) [(1,(L0 (S179_0 c)))] k179 gK = L9 (S179_10 c r1) 0 1 5 6 7 8 9 10 4294967298 := Eq.trans (block_t (id := 2) (by kernel_rfl) (seq_t (by kernel_rfl) (TS179_9 c r1) rfl)) (by funext s h; kernel_rfl)
noncomputable def S179_11b (c : CF) (r1 : A9) (t0 t1 t5 t6 t7 t8 t9 t10 g1 : AV) (h : Heap) : Res := opt (fastBin .lss t8 t9) fun t59 => test t59 (S179_10 c r1 t0 t1 t5 t6 t7 t8 t9 t10 g1 h) (S179_0 c h)
theorem TS179_11b (c : CF) (r1 : A9) : (rk P0 c 143 c179.s8.fst.bd.bd).1 (L9 r1 0 1 5 6 7 8 9 10 4294967298) [(1,(L0 (S179_0 c)))] k179 gK = L9 (S179_11b c r1) 0 1 5 6 7 8 9 10 4294967298 := Eq.trans (seq_t (by kernel_rfl) (TS179_10 c r1) rfl) (by funext s h; kernel_rfl)
noncomputable def S179_1l (c : CF) : Nat → A9
  | 0 => fun _ _ _ _ _ _ _ _ _ _ => none
  | k + 1 => S179_11b c (S179_1l c k)
theorem TS179_1l (c : CF) : (rk P0 c 143 c179.s8.fst.bd).1 (L0 (S179_0 c)) [(1,(L0 (S179_0 c)))] k179 gK = L9 (S179_1l c rounds) 0 1 5 6 7 8 9 10 4294967298 := loop_t (by kernel_rfl) (loop_ind (A := fun m => L9 (S179_1l c m) 0 1 5 6 7 8 9 10 4294967298) rfl (fun m => TS179_11b c (S179_1l c m)) rounds)
noncomputable def S179_12 (c : CF) (t0 t1 t5 t6 t7 t8 t9 t10 g1 : AV) (h : Heap) : Res := S179_1l c rounds t0 t1 t5 t6 t7 t8 t9 t10 g1 h
theorem TS179_12 (c : CF) : (rk P0 c 143 c179.s8).1 k179 [] k179 gK = L9 (S179_12 c) 0 1 5 6 7 8 9 10 4294967298 := Eq.trans (seq_t (by kernel_rfl) (TS179_0 c) (block_t (id := 1) (by kernel_rfl) (TS179_1l c))) (by funext s h; kernel_rfl)
noncomputable def S179_13 (c : CF) (t0 t1 t5 t6 t7 t8 t9 g1 : AV) (h : Heap) : Res := S179_12 c t0 t1 t5 t6 t7 t8 t9 (iL 0) g1 h
theorem TS179_13 (c : CF) : (rk P0 c 143 c179.s7).1 k179 [] k179 gK = L8 (S179_13 c) 0 1 5 6 7 8 9 4294967298 := Eq.trans (seq_t (by kernel_rfl) (TS179_12 c) rfl) (by funext s h; kernel_rfl)
noncomputable def S179_14 (c : CF) (t0 t1 t5 t6 t7 t8 g1 : AV) (h : Heap) : Res := opt (lenStr t0) fun t53 => opt (fastBin .sub t53 t5) fun t55 => opt (fastBin .add t55 (iL 1)) fun t56 => S179_13 c t0 t1 t5 t6 t7 t8 t56 g1 h
theorem TS179_14 (c : CF) : (rk P0 c 143 c179.s6).1 k179 [] k179 gK = L7 (S179_14 c) 0 1 5 6 7 8 4294967298 := Eq.trans (seq_t (by kernel_rfl) (TS179_13 c) rfl) (by funext s h; kernel_rfl)
noncomputable def S179_15 (c : CF) (t0 t1 t5 t6 t7 g1 : AV) (h : Heap) : Res := S179_14 c t0 t1 t5 t6 t7 (iL 0) g1 h
theorem TS179_15 (c : CF) : (rk P0 c 143 c179.s5).1 k179 [] k179 gK = L6 (S179_15 c) 0 1 5 6 7 4294967298 := Eq.trans (seq_t (by kernel_rfl) (TS179_14 c) rfl) (by funext s h; kernel_rfl)
noncomputable def S179_16 (c : CF) (t0 t1 t5 t6 g1 : AV) (h : Heap) : Res := opt (fastIndex t1 (iL 1)) fun t51 => S179_15 c t0 t1 t5 t6 t51 g1 h
theorem TS179_16 (c : CF) : (rk P0 c 143 c179.s4).1 k179 [] k179 gK = L5 (S179_16 c) 0 1 5 6 4294967298 := Eq.trans (seq_t (by kernel_rfl) (TS179_15 c) rfl) (by funext s h; kernel_rfl)
noncomputable def S179_17 (c : CF) (t0 t1 t5 g1 : AV) (h : Heap) : Res := opt (fastIndex t1 (iL 0)) fun t49 => S179_16 c t0 t1 t5 t49 g1 h
theorem TS179_17 (c : CF) : (rk P0 c 143 c179.s3).1 k179 [] k179 gK = L4 (S179_17 c) 0 1 5 4294967298 := Eq.trans (seq_t (by kernel_rfl) (TS179_16 c) rfl) (by funext s h; kernel_rfl)
noncomputable def S179_18 (c : CF) (t0 t1 t5 t36 g1 : AV) (h : Heap) : Res := test t36 (opt (litCall P0 [t0,t1] 194) fun t47 => some (t47,h)) (S179_17 c t0 t1 t5 g1 h)
theorem TS179_18 (c : CF) : (rk P0 c 143 c179.s2.fst.bd.snd.els.snd.els.snd.els.snd).1 (L4 (S179_17 c) 0 1 5 4294967298) [(0,(L4 (S179_17 c) 0 1 5 4294967298))] k179 gK = L5 (S179_18 c) 0 1 5 36 4294967298 := by funext s h; kernel_rfl
noncomputable def S179_19 (c : CF) (t0 t1 t5 g1 : AV) (h : Heap) : Res := opt (loadX none (globOf 1 g1) h) fun t38 => opt (fastBin .leq t5 t38) fun t39 => test t39 (opt (lenStr t0) fun t42 => opt (fastBin .leq t42 (iL 64)) fun t43 => S179_18 c t0 t1 t5 t43 g1 h) (S179_18 c t0 t1 t5 fL g1 h)
theorem TS179_19 (c : CF) : (rk P0 c 143 c179.s2.fst.bd.snd.els.snd.els.snd.els).1 (L4 (S179_17 c) 0 1 5 4294967298) [(0,(L4 (S179_17 c) 0 1 5 4294967298))] k179 gK = L4 (S179_19 c) 0 1 5 4294967298 := Eq.trans (seq_t (by kernel_rfl) (TS179_18 c) rfl) (by funext s h; kernel_rfl)
noncomputable def S179_20 (c : CF) (t0 t1 t5 t31 g1 : AV) (h : Heap) : Res := test t31 (some ((iL (-1)),h)) (S179_19 c t0 t1 t5 g1 h)
theorem TS179_20 (c : CF) : (rk P0 c 143 c179.s2.fst.bd.snd.els.snd.els.snd).1 (L4 (S179_17 c) 0 1 5 4294967298) [(0,(L4 (S179_17 c) 0 1 5 4294967298))] k179 gK = L5 (S179_20 c) 0 1 5 31 4294967298 := Eq.trans (cond_t (by kernel_rfl) rfl (TS179_19 c)) (by funext s h; kernel_rfl)
noncomputable def S179_21 (c : CF) (t0 t1 t5 g1 : AV) (h : Heap) : Res := opt (lenStr t0) fun t34 => opt (fastBin .geq t5 t34) fun t35 => S179_20 c t0 t1 t5 t35 g1 h
theorem TS179_21 (c : CF) : (rk P0 c 143 c179.s2.fst.bd.snd.els.snd.els).1 (L4 (S179_17 c) 0 1 5 4294967298) [(0,(L4 (S179_17 c) 0 1 5 4294967298))] k179 gK = L4 (S179_21 c) 0 1 5 4294967298 := Eq.trans (seq_t (by kernel_rfl) (TS179_20 c) rfl) (by funext s h; kernel_rfl)
noncomputable def S179_22 (c : CF) (t0 t1 t5 t24 g1 : AV) (h : Heap) : Res := test t24 (opt (fastIndex t1 (iL 0)) fun t29 => opt2 (c 127 [t0,t29] h) fun t30 h1 => some (t30,h1)) (S179_21 c t0 t1 t5 g1 h)
theorem TS179_22 (c : CF) : (rk P0 c 143 c179.s2.fst.bd.snd.els.snd).1 (L4 (S179_17 c) 0 1 5 4294967298) [(0,(L4 (S179_17 c) 0 1 5 4294967298))] k179 gK = L5 (S179_22 c) 0 1 5 24 4294967298 := Eq.trans (cond_t (by kernel_rfl) rfl (TS179_21 c)) (by funext s h; kernel_rfl)
noncomputable def S179_23 (c : CF) (t0 t1 t5 g1 : AV) (h : Heap) : Res := opt (fastBin .eql t5 (iL 1)) fun t26 => S179_22 c t0 t1 t5 t26 g1 h
theorem TS179_23 (c : CF) : (rk P0 c 143 c179.s2.fst.bd.snd.els).1 (L4 (S179_17 c) 0 1 5 4294967298) [(0,(L4 (S179_17 c) 0 1 5 4294967298))] k179 gK = L4 (S179_23 c) 0 1 5 4294967298 := Eq.trans (seq_t (by kernel_rfl) (TS179_22 c) rfl) (by funext s h; kernel_rfl)
noncomputable def S179_24 (c : CF) (t0 t1 t5 t16 g1 : AV) (h : Heap) : Res := test t16 (some ((iL 0),h)) (S179_23 c t0 t1 t5 g1 h)
theorem TS179_24 (c : CF) : (rk P0 c 143 c179.s2.fst.bd.snd).1 (L4 (S179_17 c) 0 1 5 4294967298) [(0,(L4 (S179_17 c) 0 1 5 4294967298))] k179 gK = L5 (S179_24 c) 0 1 5 16 4294967298 := Eq.trans (cond_t (by kernel_rfl) rfl (TS179_23 c)) (by funext s h; kernel_rfl)
noncomputable def S179_25 (c : CF) (t0 t1 t5 g1 : AV) (h : Heap) : Res := opt (fastBin .eql t5 (iL 0)) fun t18 => test t18 (S179_24 c t0 t1 t5 tL g1 h) (opt (fastBin .eql t1 t0) fun t22 => S179_24 c t0 t1 t5 t22 g1 h)
theorem TS179_25 (c : CF) : (rk P0 c 143 c179.s2).1 k179 [] k179 gK = L4 (S179_25 c) 0 1 5 4294967298 := Eq.trans (seq_t (by kernel_rfl) (TS179_17 c) (block_t (id := 0) (by kernel_rfl) (seq_t (by kernel_rfl) (TS179_24 c) rfl))) (by funext s h; kernel_rfl)
noncomputable def S179_26 (c : CF) (t0 t1 g1 : AV) (h : Heap) : Res := opt (lenStr t1) fun t15 => S179_25 c t0 t1 t15 g1 h
theorem TS179_26 (c : CF) : (rk P0 c 143 c179.snd).1 k179 [] k179 gK = L3 (S179_26 c) 0 1 4294967298 := Eq.trans (seq_t (by kernel_rfl) (TS179_25 c) rfl) (by funext s h; kernel_rfl)
noncomputable def F179 (c : CF) (a0 a1 : AV) (h : Heap) : Res := S179_26 c a0 a1 (Tr.rd gl 4294967298) h
theorem TF179 (c : CF) (a0 a1 : AV) (h : Heap) : (rk P0 c 143 c179).1 k179 [] k179 gK (argsTr gl 0 [a0,a1]) h = F179 c a0 a1 h := Eq.trans (congrFun (congrFun (seq_t (by kernel_rfl) (TS179_26 c) rfl) _) _) (by kernel_rfl)
noncomputable def N179 : FnF := n2 F179
theorem N179_ok : FnOk P0 gl 179 N179 := n2_ok namesOk mixedOrders lowOk Tryz.func179 (by kernel_rfl) (by kernel_rfl) (by kernel_rfl) TF179
noncomputable def c191 : Code := codeOf Tryz.f191
noncomputable def k191 : Kt := finK P0 Tryz.f191.results.toList
noncomputable def S191_0 (c : CF) (t5 t6 : AV) (h : Heap) : Res := opt (convX P0 181 2 t5 h) fun t29 => opt (convX P0 181 2 t6 h) fun t31 => opt (convX P0 2 181 t29 h) fun t35 => opt (binX P0 .none .eql 181 t35 t5) fun t37 => test t37 (opt (convX P0 2 181 t31 h) fun t40 => opt (binX P0 .none .eql 181 t40 t6) fun t42 => some ((.tup [t29,t31,t42]),h)) (some ((.tup [t29,t31,fL]),h))
theorem TS191_0 (c : CF) : (rk P0 c 44 c191.s4).1 k191 [] k191 gK = L2 (S191_0 c) 5 6 := by funext s h; kernel_rfl
noncomputable def S191_1 (c : CF) (t5 t6 t27 : AV) (h : Heap) : Res := test t27 (some ((.tup [(iL 0),(iL 0),fL]),h)) (S191_0 c t5 t6 h)
theorem TS191_1 (c : CF) : (rk P0 c 44 c191.s3.fst.snd).1 (L2 (S191_0 c) 5 6) [] k191 gK = L3 (S191_1 c) 5 6 27 := by funext s h; kernel_rfl
noncomputable def S191_2 (c : CF) (t5 t6 : AV) (h : Heap) : Res := opt (binX P0 .none .geq 181 t5 (.lit (.float .f64 13920626448202203136))) fun t14 => test t14 (opt (binX P0 .none .leq 181 t5 (.lit (.float .f64 4697254411347427328))) fun t17 => test t17 (opt (binX P0 .none .geq 181 t6 (.lit (.float .f64 13920626448202203136))) fun t21 => test t21 (opt (binX P0 .none .leq 181 t6 (.lit (.float .f64 4697254411347427328))) fun t25 => opt (notX t25) fun t27 => S191_1 c t5 t6 t27 h) (opt (notX fL) fun t27_1 => S191_1 c t5 t6 t27_1 h)) (opt (notX fL) fun t27_2 => S191_1 c t5 t6 t27_2 h)) (opt (notX fL) fun t27_3 => S191_1 c t5 t6 t27_3 h)
theorem TS191_2 (c : CF) : (rk P0 c 44 c191.s3).1 k191 [] k191 gK = L2 (S191_2 c) 5 6 := Eq.trans (seq_t (by kernel_rfl) (TS191_0 c) (seq_t (by kernel_rfl) (TS191_1 c) rfl)) (by funext s h; kernel_rfl)
noncomputable def S191_3 (c : CF) (t0 t5 : AV) (h : Heap) : Res := opt (litBi P0 .imag [67] 181 [false] [t0]) fun t12 => S191_2 c t5 t12 h
theorem TS191_3 (c : CF) : (rk P0 c 44 c191.s2).1 k191 [] k191 gK = L2 (S191_3 c) 0 5 := Eq.trans (seq_t (by kernel_rfl) (TS191_2 c) rfl) (by funext s h; kernel_rfl)
noncomputable def S191_4 (c : CF) (t0 : AV) (h : Heap) : Res := opt (litBi P0 .real [67] 181 [false] [t0]) fun t10 => S191_3 c t0 t10 h
theorem TS191_4 (c : CF) : (rk P0 c 44 c191.snd).1 k191 [] k191 gK = L1 (S191_4 c) 0 := Eq.trans (seq_t (by kernel_rfl) (TS191_3 c) rfl) (by funext s h; kernel_rfl)
noncomputable def F191 (c : CF) (a0 : AV) (h : Heap) : Res := S191_4 c a0 h
theorem TF191 (c : CF) (a0 : AV) (h : Heap) : (rk P0 c 44 c191).1 k191 [] k191 gK (argsTr gl 0 [a0]) h = F191 c a0 h := Eq.trans (congrFun (congrFun (seq_t (by kernel_rfl) (TS191_4 c) rfl) _) _) (by kernel_rfl)
noncomputable def N191 : FnF := n1 F191
theorem N191_ok : FnOk P0 gl 191 N191 := n1_ok namesOk mixedOrders lowOk Tryz.func191 (by kernel_rfl) (by kernel_rfl) (by kernel_rfl) TF191
end Go.Proofs.YtifeckgncimonaaGreatDoor
