import Derived.Test.YtcajleckiegffaaProg
import Derived.Test.YtcajleckiegffaaAmS4
import Derived.KernelRfl
set_option linter.unusedSectionVars false
namespace Go.Proofs.Ytcajleckiegffaa
open Go.Am
set_option maxRecDepth 100000
set_option linter.unusedSimpArgs false
set_option linter.unusedVariables false
noncomputable def gl : Tr := .leaf
theorem lowOk : ∀ i, i ≤ 4294967296 → gl.get i = .lit undef := fun i _ => Tr.get_leaf i
theorem names : (Try.prog.funcs.toList.all fun fn => !(fn.body.isSome && (fn.name == "runtime.NumGoroutine"))) = true := by kernel_rfl
theorem namesOk : NamesOk Try.prog := by
  intro f fn h hb
  have hm : fn ∈ Try.prog.funcs.toList := Array.mem_toList_iff.2 (Array.mem_of_getElem? h)
  have := List.all_eq_true.1 names fn hm
  simp only [hb, Bool.true_and, Bool.not_eq_true'] at this
  exact this
theorem mixedOrders : Try.prog.follows .mixedOrders = true := by kernel_rfl
noncomputable def c3 : Code := codeOf Try.f3

noncomputable def S3_0 (call : CallF) (t0 : AV) (t6 : AV) (h : Heap) : Res :=
  opt (lenStr t0) fun t109 =>
  opt (fastBin .leq t6 t109) fun t110 =>
  test t110
  (opt2 (call 11 [] h) fun t112 h1 =>
  some (t112, h1))
  (some ((.lit (.bool false)), h))

theorem TS3_0 (call : CallF) : (rk Try.prog call 114 (Code.snd (Code.snd (Code.snd (Code.snd (Code.snd c3)))))).1 (finK Try.prog Try.f3.results.toList) [] (finK Try.prog Try.f3.results.toList) (fun _ => stuckK) = fun s h => S3_0 call (s.rd 0) (s.rd 6) h := by funext s h; kernel_rfl

noncomputable def S3_2 (call : CallF) (r1 : AV → AV → AV → AV → Heap → Res) (t0 : AV) (t3 : AV) (t6 : AV) (t7 : AV) (h : Heap) : Res :=
  opt (fastBin .add t7 (.lit (.int .i64 1))) fun t28 =>
  r1 t0 t3 t6 t28 h

theorem TS3_2 (call : CallF) (r1 : AV → AV → AV → AV → Heap → Res) : (rk Try.prog call 114 (Code.snd (Code.snd (Code.bd (Code.bd (Code.snd (Code.fst (Code.snd (Code.snd (Code.snd (Code.snd c3))))))))))).1 (fun s h => r1 (s.rd 0) (s.rd 3) (s.rd 6) (s.rd 7) h) [(0, (fun s h => S3_0 call (s.rd 0) (s.rd 6) h))] (finK Try.prog Try.f3.results.toList) (fun _ => stuckK) = fun s h => S3_2 call r1 (s.rd 0) (s.rd 3) (s.rd 6) (s.rd 7) h := by funext s h; kernel_rfl

noncomputable def S3_3 (call : CallF) (r1 : AV → AV → AV → AV → Heap → Res) (t0 : AV) (t3 : AV) (t7 : AV) (t8 : AV) (h : Heap) : Res :=
  opt (fieldAddrX 1 t8) fun t87 =>
  opt (loadX none t87 h) fun t88 =>
  opt (fieldAddrX 2 t8) fun t89 =>
  opt (loadX none t89 h) fun t90 =>
  opt (lenStr t90) fun t91 =>
  opt (fastBin .add t88 t91) fun t92 =>
  S3_2 call r1 t0 t3 t92 t7 h

theorem TS3_3 (call : CallF) (r1 : AV → AV → AV → AV → Heap → Res) : (rk Try.prog call 114 (Code.snd (Code.thn (Code.snd (Code.els (Code.snd (Code.els (Code.snd (Code.bd (Code.snd (Code.snd (Code.snd (Code.bd (Code.fst (Code.snd (Code.bd (Code.bd (Code.snd (Code.fst (Code.snd (Code.snd (Code.snd (Code.snd c3))))))))))))))))))))))).1 (fun s h => S3_2 call r1 (s.rd 0) (s.rd 3) (s.rd 6) (s.rd 7) h) [(2, (fun s h => S3_2 call r1 (s.rd 0) (s.rd 3) (s.rd 6) (s.rd 7) h)), (1, (fun s h => S3_2 call r1 (s.rd 0) (s.rd 3) (s.rd 6) (s.rd 7) h)), (0, (fun s h => S3_0 call (s.rd 0) (s.rd 6) h))] (finK Try.prog Try.f3.results.toList) (fun _ => stuckK) = fun s h => S3_3 call r1 (s.rd 0) (s.rd 3) (s.rd 7) (s.rd 8) h := by funext s h; kernel_rfl

noncomputable def S3_4 (call : CallF) (r1 : AV → AV → AV → AV → Heap → Res) (t0 : AV) (t3 : AV) (t7 : AV) (t8 : AV) (h : Heap) : Res :=
  opt (fieldAddrX 2 t8) fun t68 =>
  opt (loadX none t68 h) fun t69 =>
  eqH h h (
  opt (lenStr t69) fun t70 =>
  opt (fastBin .eql t70 (.lit (.int .i64 0))) fun t71 =>
  test t71
  (some ((.lit (.bool false)), h))
  (opt (fieldAddrX 1 t8) fun t74 =>
  opt (loadX none t74 h) fun t75 =>
  eqH h h (
  opt (fieldAddrX 1 t8) fun t76 =>
  opt (loadX none t76 h) fun t77 =>
  eqH h h (
  opt (fieldAddrX 2 t8) fun t78 =>
  opt (loadX none t78 h) fun t79 =>
  eqH h h (
  opt (lenStr t79) fun t80 =>
  opt (fastBin .add t77 t80) fun t81 =>
  opt (fastCut t0 (some t75) (some t81) none) fun t82 =>
  eqH h h (
  opt (fieldAddrX 2 t8) fun t83 =>
  opt (loadX none t83 h) fun t84 =>
  eqH h h (
  opt (fastBin .neq t82 t84) fun t85 =>
  test t85
  (some ((.lit (.bool false)), h))
  (S3_3 call r1 t0 t3 t7 t8 h))))))))

theorem TS3_4 (call : CallF) (r1 : AV → AV → AV → AV → Heap → Res) : (rk Try.prog call 114 (Code.thn (Code.snd (Code.els (Code.snd (Code.els (Code.snd (Code.bd (Code.snd (Code.snd (Code.snd (Code.bd (Code.fst (Code.snd (Code.bd (Code.bd (Code.snd (Code.fst (Code.snd (Code.snd (Code.snd (Code.snd c3)))))))))))))))))))))).1 (fun s h => S3_2 call r1 (s.rd 0) (s.rd 3) (s.rd 6) (s.rd 7) h) [(2, (fun s h => S3_2 call r1 (s.rd 0) (s.rd 3) (s.rd 6) (s.rd 7) h)), (1, (fun s h => S3_2 call r1 (s.rd 0) (s.rd 3) (s.rd 6) (s.rd 7) h)), (0, (fun s h => S3_0 call (s.rd 0) (s.rd 6) h))] (finK Try.prog Try.f3.results.toList) (fun _ => stuckK) = fun s h => S3_4 call r1 (s.rd 0) (s.rd 3) (s.rd 7) (s.rd 8) h := Eq.trans (seq_t (by kernel_rfl) (TS3_3 call r1) rfl) (by funext s h; kernel_rfl)

noncomputable def S3_5 (call : CallF) (r1 : AV → AV → AV → AV → Heap → Res) (t0 : AV) (t3 : AV) (t7 : AV) (t8 : AV) (t45 : AV) (t66 : AV) (h : Heap) : Res :=
  test t66
  (S3_4 call r1 t0 t3 t7 t8 h)
  (opt (fastBin .eql t45 (.lit (.int .i64 4))) fun t94 =>
  test t94
  (opt (fieldAddrX 1 t8) fun t96 =>
  opt (loadX none t96 h) fun t97 =>
  opt (fastIndex t0 t97) fun t98 =>
  opt (fastBin .neq t98 (.lit (.int .u8 34))) fun t99 =>
  test t99
  (some ((.lit (.bool false)), h))
  (opt (fieldAddrX 1 t8) fun t100 =>
  opt (loadX none t100 h) fun t101 =>
  opt (fieldAddrX 2 t8) fun t102 =>
  opt (loadX none t102 h) fun t103 =>
  opt (lenStr t103) fun t104 =>
  opt (fastBin .add t101 t104) fun t105 =>
  opt (fastBin .add t105 (.lit (.int .i64 2))) fun t106 =>
  S3_2 call r1 t0 t3 t106 t7 h))
  (some ((.lit (.bool false)), h)))

theorem TS3_5 (call : CallF) (r1 : AV → AV → AV → AV → Heap → Res) : (rk Try.prog call 114 (Code.snd (Code.els (Code.snd (Code.els (Code.snd (Code.bd (Code.snd (Code.snd (Code.snd (Code.bd (Code.fst (Code.snd (Code.bd (Code.bd (Code.snd (Code.fst (Code.snd (Code.snd (Code.snd (Code.snd c3))))))))))))))))))))).1 (fun s h => S3_2 call r1 (s.rd 0) (s.rd 3) (s.rd 6) (s.rd 7) h) [(2, (fun s h => S3_2 call r1 (s.rd 0) (s.rd 3) (s.rd 6) (s.rd 7) h)), (1, (fun s h => S3_2 call r1 (s.rd 0) (s.rd 3) (s.rd 6) (s.rd 7) h)), (0, (fun s h => S3_0 call (s.rd 0) (s.rd 6) h))] (finK Try.prog Try.f3.results.toList) (fun _ => stuckK) = fun s h => S3_5 call r1 (s.rd 0) (s.rd 3) (s.rd 7) (s.rd 8) (s.rd 45) (s.rd 66) h := Eq.trans (cond_t (by kernel_rfl) (TS3_4 call r1) rfl) (by funext s h; kernel_rfl)

noncomputable def S3_6 (call : CallF) (r1 : AV → AV → AV → AV → Heap → Res) (t0 : AV) (t3 : AV) (t7 : AV) (t8 : AV) (t45 : AV) (h : Heap) : Res :=
  opt (fastBin .eql t45 (.lit (.int .i64 3))) fun t67 =>
  S3_5 call r1 t0 t3 t7 t8 t45 t67 h

theorem TS3_6 (call : CallF) (r1 : AV → AV → AV → AV → Heap → Res) : (rk Try.prog call 114 (Code.els (Code.snd (Code.els (Code.snd (Code.bd (Code.snd (Code.snd (Code.snd (Code.bd (Code.fst (Code.snd (Code.bd (Code.bd (Code.snd (Code.fst (Code.snd (Code.snd (Code.snd (Code.snd c3)))))))))))))))))))).1 (fun s h => S3_2 call r1 (s.rd 0) (s.rd 3) (s.rd 6) (s.rd 7) h) [(2, (fun s h => S3_2 call r1 (s.rd 0) (s.rd 3) (s.rd 6) (s.rd 7) h)), (1, (fun s h => S3_2 call r1 (s.rd 0) (s.rd 3) (s.rd 6) (s.rd 7) h)), (0, (fun s h => S3_0 call (s.rd 0) (s.rd 6) h))] (finK Try.prog Try.f3.results.toList) (fun _ => stuckK) = fun s h => S3_6 call r1 (s.rd 0) (s.rd 3) (s.rd 7) (s.rd 8) (s.rd 45) h := Eq.trans (seq_t (by kernel_rfl) (TS3_5 call r1) rfl) (by funext s h; kernel_rfl)

noncomputable def S3_7 (call : CallF) (r1 : AV → AV → AV → AV → Heap → Res) (t0 : AV) (t3 : AV) (t7 : AV) (t8 : AV) (t45 : AV) (t56 : AV) (h : Heap) : Res :=
  test t56
  (opt (fieldAddrX 1 t8) fun t59 =>
  opt (loadX none t59 h) fun t60 =>
  opt (fastIndex t0 t60) fun t61 =>
  opt (fastBin .neq t61 (.lit (.int .u8 41))) fun t62 =>
  test t62
  (some ((.lit (.bool false)), h))
  (opt (fieldAddrX 1 t8) fun t63 =>
  opt (loadX none t63 h) fun t64 =>
  opt (fastBin .add t64 (.lit (.int .i64 1))) fun t65 =>
  S3_2 call r1 t0 t3 t65 t7 h))
  (S3_6 call r1 t0 t3 t7 t8 t45 h)

theorem TS3_7 (call : CallF) (r1 : AV → AV → AV → AV → Heap → Res) : (rk Try.prog call 114 (Code.snd (Code.els (Code.snd (Code.bd (Code.snd (Code.snd (Code.snd (Code.bd (Code.fst (Code.snd (Code.bd (Code.bd (Code.snd (Code.fst (Code.snd (Code.snd (Code.snd (Code.snd c3))))))))))))))))))).1 (fun s h => S3_2 call r1 (s.rd 0) (s.rd 3) (s.rd 6) (s.rd 7) h) [(2, (fun s h => S3_2 call r1 (s.rd 0) (s.rd 3) (s.rd 6) (s.rd 7) h)), (1, (fun s h => S3_2 call r1 (s.rd 0) (s.rd 3) (s.rd 6) (s.rd 7) h)), (0, (fun s h => S3_0 call (s.rd 0) (s.rd 6) h))] (finK Try.prog Try.f3.results.toList) (fun _ => stuckK) = fun s h => S3_7 call r1 (s.rd 0) (s.rd 3) (s.rd 7) (s.rd 8) (s.rd 45) (s.rd 56) h := Eq.trans (cond_t (by kernel_rfl) rfl (TS3_6 call r1)) (by funext s h; kernel_rfl)

noncomputable def S3_8 (call : CallF) (r1 : AV → AV → AV → AV → Heap → Res) (t0 : AV) (t3 : AV) (t7 : AV) (t8 : AV) (t45 : AV) (h : Heap) : Res :=
  opt (fastBin .eql t45 (.lit (.int .i64 2))) fun t57 =>
  S3_7 call r1 t0 t3 t7 t8 t45 t57 h

theorem TS3_8 (call : CallF) (r1 : AV → AV → AV → AV → Heap → Res) : (rk Try.prog call 114 (Code.els (Code.snd (Code.bd (Code.snd (Code.snd (Code.snd (Code.bd (Code.fst (Code.snd (Code.bd (Code.bd (Code.snd (Code.fst (Code.snd (Code.snd (Code.snd (Code.snd c3)))))))))))))))))).1 (fun s h => S3_2 call r1 (s.rd 0) (s.rd 3) (s.rd 6) (s.rd 7) h) [(2, (fun s h => S3_2 call r1 (s.rd 0) (s.rd 3) (s.rd 6) (s.rd 7) h)), (1, (fun s h => S3_2 call r1 (s.rd 0) (s.rd 3) (s.rd 6) (s.rd 7) h)), (0, (fun s h => S3_0 call (s.rd 0) (s.rd 6) h))] (finK Try.prog Try.f3.results.toList) (fun _ => stuckK) = fun s h => S3_8 call r1 (s.rd 0) (s.rd 3) (s.rd 7) (s.rd 8) (s.rd 45) h := Eq.trans (seq_t (by kernel_rfl) (TS3_7 call r1) rfl) (by funext s h; kernel_rfl)

noncomputable def S3_9 (call : CallF) (r1 : AV → AV → AV → AV → Heap → Res) (t0 : AV) (t3 : AV) (t7 : AV) (t8 : AV) (t45 : AV) (t46 : AV) (h : Heap) : Res :=
  test t46
  (opt (fieldAddrX 1 t8) fun t49 =>
  opt (loadX none t49 h) fun t50 =>
  opt (fastIndex t0 t50) fun t51 =>
  opt (fastBin .neq t51 (.lit (.int .u8 40))) fun t52 =>
  test t52
  (some ((.lit (.bool false)), h))
  (opt (fieldAddrX 1 t8) fun t53 =>
  opt (loadX none t53 h) fun t54 =>
  opt (fastBin .add t54 (.lit (.int .i64 1))) fun t55 =>
  S3_2 call r1 t0 t3 t55 t7 h))
  (S3_8 call r1 t0 t3 t7 t8 t45 h)

theorem TS3_9 (call : CallF) (r1 : AV → AV → AV → AV → Heap → Res) : (rk Try.prog call 114 (Code.snd (Code.bd (Code.snd (Code.snd (Code.snd (Code.bd (Code.fst (Code.snd (Code.bd (Code.bd (Code.snd (Code.fst (Code.snd (Code.snd (Code.snd (Code.snd c3))))))))))))))))).1 (fun s h => S3_2 call r1 (s.rd 0) (s.rd 3) (s.rd 6) (s.rd 7) h) [(2, (fun s h => S3_2 call r1 (s.rd 0) (s.rd 3) (s.rd 6) (s.rd 7) h)), (1, (fun s h => S3_2 call r1 (s.rd 0) (s.rd 3) (s.rd 6) (s.rd 7) h)), (0, (fun s h => S3_0 call (s.rd 0) (s.rd 6) h))] (finK Try.prog Try.f3.results.toList) (fun _ => stuckK) = fun s h => S3_9 call r1 (s.rd 0) (s.rd 3) (s.rd 7) (s.rd 8) (s.rd 45) (s.rd 46) h := Eq.trans (cond_t (by kernel_rfl) rfl (TS3_8 call r1)) (by funext s h; kernel_rfl)

noncomputable def S3_10 (call : CallF) (r1 : AV → AV → AV → AV → Heap → Res) (t0 : AV) (t3 : AV) (t7 : AV) (t8 : AV) (t45 : AV) (h : Heap) : Res :=
  opt (fastBin .eql t45 (.lit (.int .i64 1))) fun t47 =>
  S3_9 call r1 t0 t3 t7 t8 t45 t47 h

theorem TS3_10 (call : CallF) (r1 : AV → AV → AV → AV → Heap → Res) : (rk Try.prog call 114 (Code.snd (Code.snd (Code.snd (Code.bd (Code.fst (Code.snd (Code.bd (Code.bd (Code.snd (Code.fst (Code.snd (Code.snd (Code.snd (Code.snd c3))))))))))))))).1 (fun s h => S3_2 call r1 (s.rd 0) (s.rd 3) (s.rd 6) (s.rd 7) h) [(1, (fun s h => S3_2 call r1 (s.rd 0) (s.rd 3) (s.rd 6) (s.rd 7) h)), (0, (fun s h => S3_0 call (s.rd 0) (s.rd 6) h))] (finK Try.prog Try.f3.results.toList) (fun _ => stuckK) = fun s h => S3_10 call r1 (s.rd 0) (s.rd 3) (s.rd 7) (s.rd 8) (s.rd 45) h := Eq.trans (block_t (id := 2) (by kernel_rfl) (seq_t (by kernel_rfl) (TS3_9 call r1) rfl)) (by funext s h; kernel_rfl)

noncomputable def S3_11 (call : CallF) (r1 : AV → AV → AV → AV → Heap → Res) (t0 : AV) (t3 : AV) (t7 : AV) (t8 : AV) (h : Heap) : Res :=
  opt (fieldAddrX 0 t8) fun t44 =>
  opt (loadX none t44 h) fun t45 =>
  S3_10 call r1 t0 t3 t7 t8 t45 h

theorem TS3_11 (call : CallF) (r1 : AV → AV → AV → AV → Heap → Res) : (rk Try.prog call 114 (Code.snd (Code.snd (Code.bd (Code.fst (Code.snd (Code.bd (Code.bd (Code.snd (Code.fst (Code.snd (Code.snd (Code.snd (Code.snd c3)))))))))))))).1 (fun s h => S3_2 call r1 (s.rd 0) (s.rd 3) (s.rd 6) (s.rd 7) h) [(1, (fun s h => S3_2 call r1 (s.rd 0) (s.rd 3) (s.rd 6) (s.rd 7) h)), (0, (fun s h => S3_0 call (s.rd 0) (s.rd 6) h))] (finK Try.prog Try.f3.results.toList) (fun _ => stuckK) = fun s h => S3_11 call r1 (s.rd 0) (s.rd 3) (s.rd 7) (s.rd 8) h := Eq.trans (seq_t (by kernel_rfl) (TS3_10 call r1) rfl) (by funext s h; kernel_rfl)

noncomputable def S3_12 (call : CallF) (r1 : AV → AV → AV → AV → Heap → Res) (t0 : AV) (t3 : AV) (t6 : AV) (t7 : AV) (t8 : AV) (h : Heap) : Res :=
  opt (fieldAddrX 1 t8) fun t33 =>
  opt (loadX none t33 h) fun t34 =>
  opt (fastBin .lss t34 t6) fun t36 =>
  test t36
  (some ((.lit (.bool false)), h))
  (opt (fieldAddrX 1 t8) fun t38 =>
  opt (loadX none t38 h) fun t39 =>
  opt (lenStr t0) fun t41 =>
  opt (fastBin .geq t39 t41) fun t42 =>
  test t42
  (some ((.lit (.bool false)), h))
  (S3_11 call r1 t0 t3 t7 t8 h))

theorem TS3_12 (call : CallF) (r1 : AV → AV → AV → AV → Heap → Res) : (rk Try.prog call 114 (Code.snd (Code.bd (Code.fst (Code.snd (Code.bd (Code.bd (Code.snd (Code.fst (Code.snd (Code.snd (Code.snd (Code.snd c3))))))))))))).1 (fun s h => S3_2 call r1 (s.rd 0) (s.rd 3) (s.rd 6) (s.rd 7) h) [(1, (fun s h => S3_2 call r1 (s.rd 0) (s.rd 3) (s.rd 6) (s.rd 7) h)), (0, (fun s h => S3_0 call (s.rd 0) (s.rd 6) h))] (finK Try.prog Try.f3.results.toList) (fun _ => stuckK) = fun s h => S3_12 call r1 (s.rd 0) (s.rd 3) (s.rd 6) (s.rd 7) (s.rd 8) h := Eq.trans (seq_t (by kernel_rfl) (TS3_11 call r1) rfl) (by funext s h; kernel_rfl)

noncomputable def S3_13 (call : CallF) (r1 : AV → AV → AV → AV → Heap → Res) (t0 : AV) (t3 : AV) (t6 : AV) (t7 : AV) (h : Heap) : Res :=
  opt (indexAddrS 3 t3 t7 h) fun t31 =>
  opt (loadX (some 3) t31 h) fun t32 =>
  opt2 (box (.agg [(.lit (.int .i64 0)), (.lit (.int .i64 0)), (.lit (.string ⟨⟨[]⟩⟩))]) h) fun t8 h1 =>
  optH (storeX 3 t8 t32 h1) fun h2 =>
  S3_12 call r1 t0 t3 t6 t7 t8 h2

theorem TS3_13 (call : CallF) (r1 : AV → AV → AV → AV → Heap → Res) : (rk Try.prog call 114 (Code.snd (Code.bd (Code.bd (Code.snd (Code.fst (Code.snd (Code.snd (Code.snd (Code.snd c3)))))))))).1 (fun s h => r1 (s.rd 0) (s.rd 3) (s.rd 6) (s.rd 7) h) [(0, (fun s h => S3_0 call (s.rd 0) (s.rd 6) h))] (finK Try.prog Try.f3.results.toList) (fun _ => stuckK) = fun s h => S3_13 call r1 (s.rd 0) (s.rd 3) (s.rd 6) (s.rd 7) h := Eq.trans (seq_t (by kernel_rfl) (TS3_2 call r1) (block_t (id := 1) (by kernel_rfl) (seq_t (by kernel_rfl) (TS3_12 call r1) rfl))) (by funext s h; kernel_rfl)

noncomputable def S3_14b (call : CallF) (r1 : AV → AV → AV → AV → Heap → Res) (t0 : AV) (t3 : AV) (t6 : AV) (t7 : AV) (h : Heap) : Res :=
  opt (lenS t3) fun t25 =>
  opt (fastBin .lss t7 t25) fun t26 =>
  test t26
  (S3_13 call r1 t0 t3 t6 t7 h)
  (S3_0 call t0 t6 h)

theorem TS3_14b (call : CallF) (r1 : AV → AV → AV → AV → Heap → Res) : (rk Try.prog call 114 (Code.bd (Code.bd (Code.snd (Code.fst (Code.snd (Code.snd (Code.snd (Code.snd c3))))))))).1 (fun s h => r1 (s.rd 0) (s.rd 3) (s.rd 6) (s.rd 7) h) [(0, (fun s h => S3_0 call (s.rd 0) (s.rd 6) h))] (finK Try.prog Try.f3.results.toList) (fun _ => stuckK) = fun s h => S3_14b call r1 (s.rd 0) (s.rd 3) (s.rd 6) (s.rd 7) h := Eq.trans (seq_t (by kernel_rfl) (TS3_13 call r1) rfl) (by funext s h; kernel_rfl)

noncomputable def S3_1l (call : CallF) : Nat → AV → AV → AV → AV → Heap → Res
  | 0 => fun _ _ _ _ _ => none
  | k + 1 => S3_14b call (S3_1l call k)

theorem TS3_1l (call : CallF) : (rk Try.prog call 114 (Code.bd (Code.snd (Code.fst (Code.snd (Code.snd (Code.snd (Code.snd c3)))))))).1 (fun s h => S3_0 call (s.rd 0) (s.rd 6) h) [(0, (fun s h => S3_0 call (s.rd 0) (s.rd 6) h))] (finK Try.prog Try.f3.results.toList) (fun _ => stuckK) = fun s h => S3_1l call rounds (s.rd 0) (s.rd 3) (s.rd 6) (s.rd 7) h :=
  loop_t (by kernel_rfl) (loop_ind (A := fun m => fun s h => S3_1l call m (s.rd 0) (s.rd 3) (s.rd 6) (s.rd 7) h) rfl (fun m => TS3_14b call (S3_1l call m)) rounds)

noncomputable def S3_15 (call : CallF) (t0 : AV) (t3 : AV) (t6 : AV) (t7 : AV) (h : Heap) : Res :=
  S3_1l call rounds t0 t3 t6 t7 h

theorem TS3_15 (call : CallF) : (rk Try.prog call 114 (Code.snd (Code.fst (Code.snd (Code.snd (Code.snd (Code.snd c3))))))).1 (fun s h => S3_0 call (s.rd 0) (s.rd 6) h) [] (finK Try.prog Try.f3.results.toList) (fun _ => stuckK) = fun s h => S3_15 call (s.rd 0) (s.rd 3) (s.rd 6) (s.rd 7) h := Eq.trans (block_t (id := 0) (by kernel_rfl) (TS3_1l call)) (by funext s h; kernel_rfl)

noncomputable def S3_16 (call : CallF) (t0 : AV) (t3 : AV) (t6 : AV) (h : Heap) : Res :=
  S3_15 call t0 t3 t6 (.lit (.int .i64 0)) h

theorem TS3_16 (call : CallF) : (rk Try.prog call 114 (Code.snd (Code.snd (Code.snd (Code.snd c3))))).1 (finK Try.prog Try.f3.results.toList) [] (finK Try.prog Try.f3.results.toList) (fun _ => stuckK) = fun s h => S3_16 call (s.rd 0) (s.rd 3) (s.rd 6) h := Eq.trans (seq_t (by kernel_rfl) (TS3_0 call) (seq_t (by kernel_rfl) (TS3_15 call) rfl)) (by funext s h; kernel_rfl)

noncomputable def S3_17 (call : CallF) (t0 : AV) (t3 : AV) (h : Heap) : Res :=
  S3_16 call t0 t3 (.lit (.int .i64 0)) h

theorem TS3_17 (call : CallF) : (rk Try.prog call 114 (Code.snd (Code.snd (Code.snd c3)))).1 (finK Try.prog Try.f3.results.toList) [] (finK Try.prog Try.f3.results.toList) (fun _ => stuckK) = fun s h => S3_17 call (s.rd 0) (s.rd 3) h := Eq.trans (seq_t (by kernel_rfl) (TS3_16 call) rfl) (by funext s h; kernel_rfl)

noncomputable def S3_18 (call : CallF) (t0 : AV) (t3 : AV) (t4 : AV) (h : Heap) : Res :=
  opt (fastBin .neq t4 (.lit (.int .i64 0))) fun t16 =>
  test t16
  (opt (lenS t3) fun t18 =>
  opt (fastBin .eql t18 (.lit (.int .i64 0))) fun t19 =>
  test t19
  (opt2 (call 11 [] h) fun t21 h1 =>
  some (t21, h1))
  (some ((.lit (.bool false)), h)))
  (S3_17 call t0 t3 h)

theorem TS3_18 (call : CallF) : (rk Try.prog call 114 (Code.snd (Code.snd c3))).1 (finK Try.prog Try.f3.results.toList) [] (finK Try.prog Try.f3.results.toList) (fun _ => stuckK) = fun s h => S3_18 call (s.rd 0) (s.rd 3) (s.rd 4) h := Eq.trans (seq_t (by kernel_rfl) (TS3_17 call) rfl) (by funext s h; kernel_rfl)

noncomputable def S3_19 (call : CallF) (t0 : AV) (h : Heap) : Res :=
  opt2 (call 10 [t0] h) fun t11 h1 =>
  opt (extractX t11 0) fun t12 =>
  opt (extractX t11 1) fun t13 =>
  opt (extractX t11 2) fun t14 =>
  S3_18 call t0 t12 t13 h1

theorem TS3_19 (call : CallF) : (rk Try.prog call 114 (Code.snd c3)).1 (finK Try.prog Try.f3.results.toList) [] (finK Try.prog Try.f3.results.toList) (fun _ => stuckK) = fun s h => S3_19 call (s.rd 0) h := Eq.trans (seq_t (by kernel_rfl) (TS3_18 call) rfl) (by funext s h; kernel_rfl)

/-- hawser/hawserlaw3.LexPlaces -/
noncomputable def F3 (call : CallF) (a0 : AV) (h : Heap) : Res :=
  S3_19 call a0 h

theorem TF3 (call : CallF) (a0 : AV) (h : Heap) : (rk Try.prog call 114 c3).1 (finK Try.prog Try.f3.results.toList) [] (finK Try.prog Try.f3.results.toList) (fun _ => stuckK) (argsTr gl 0 [a0]) h = F3 call a0 h := Eq.trans (congrFun (congrFun (seq_t (by kernel_rfl) (TS3_19 call) rfl) _) _) (by kernel_rfl)

noncomputable def N3 : FnF
  | call, [a0], h => F3 call a0 h
  | _, _, _ => none

theorem N3_ok : FnOk Try.prog gl 3 N3 := FnOk.of namesOk mixedOrders lowOk Try.func3 (by kernel_rfl) fun call args h r hF => by
  unfold N3 at hF
  split at hF
  · rw [← hF, ← TF3]; exact bodyK_at (by kernel_rfl) (by kernel_rfl) rfl rfl
  · cases hF

noncomputable def c4 : Code := codeOf Try.f4

noncomputable def S4_0 (call : CallF) (h : Heap) : Res :=
  opt2 (call 11 [] h) fun t137 h1 =>
  some (t137, h1)

theorem TS4_0 (call : CallF) : (rk Try.prog call 138 (Code.snd (Code.snd (Code.snd (Code.snd (Code.snd (Code.snd (Code.snd (Code.snd (Code.snd (Code.snd (Code.snd (Code.snd c4))))))))))))).1 (finK Try.prog Try.f4.results.toList) [] (finK Try.prog Try.f4.results.toList) (fun _ => stuckK) = fun s h => S4_0 call h := by funext s h; kernel_rfl

noncomputable def S4_2 (call : CallF) (r1 : AV → AV → AV → AV → Heap → Res) (t2 : AV) (t7 : AV) (t14 : AV) (t17 : AV) (h : Heap) : Res :=
  opt (fastBin .add t17 (.lit (.int .i64 1))) fun t97 =>
  r1 t2 t7 t14 t97 h

theorem TS4_2 (call : CallF) (r1 : AV → AV → AV → AV → Heap → Res) : (rk Try.prog call 138 (Code.snd (Code.snd (Code.bd (Code.bd (Code.snd (Code.fst (Code.snd (Code.snd (Code.snd (Code.snd (Code.snd (Code.snd (Code.snd (Code.snd (Code.snd (Code.snd (Code.snd c4)))))))))))))))))).1 (fun s h => r1 (s.rd 2) (s.rd 7) (s.rd 14) (s.rd 17) h) [(4, (fun s h => S4_0 call h))] (finK Try.prog Try.f4.results.toList) (fun _ => stuckK) = fun s h => S4_2 call r1 (s.rd 2) (s.rd 7) (s.rd 14) (s.rd 17) h := by funext s h; kernel_rfl

noncomputable def S4_3 (call : CallF) (r1 : AV → AV → AV → AV → Heap → Res) (t2 : AV) (t7 : AV) (t14 : AV) (t17 : AV) (h : Heap) : Res :=
  opt (indexAddrS 3 t14 t17 h) fun t100 =>
  eqH h h (
  opt (fieldAddrX 0 t100) fun t101 =>
  opt (loadX none t101 h) fun t102 =>
  eqH h h (
  opt (indexAddrS 3 t7 t17 h) fun t105 =>
  eqH h h (
  opt (fieldAddrX 0 t105) fun t106 =>
  opt (loadX none t106 h) fun t107 =>
  eqH h h (
  opt (fastBin .neq t102 t107) fun t108 =>
  test t108
  (some ((.lit (.bool false)), h))
  (opt (indexAddrS 3 t14 t17 h) fun t112 =>
  eqH h h (
  opt (fieldAddrX 2 t112) fun t113 =>
  opt (loadX none t113 h) fun t114 =>
  eqH h h (
  opt (indexAddrS 3 t7 t17 h) fun t117 =>
  eqH h h (
  opt (fieldAddrX 2 t117) fun t118 =>
  opt (loadX none t118 h) fun t119 =>
  eqH h h (
  opt (fastBin .neq t114 t119) fun t120 =>
  test t120
  (some ((.lit (.bool false)), h))
  (opt (indexAddrS 3 t14 t17 h) fun t125 =>
  eqH h h (
  opt (fieldAddrX 1 t125) fun t126 =>
  opt (loadX none t126 h) fun t127 =>
  eqH h h (
  opt (indexAddrS 3 t7 t17 h) fun t130 =>
  eqH h h (
  opt (fieldAddrX 1 t130) fun t131 =>
  opt (loadX none t131 h) fun t132 =>
  eqH h h (
  opt (fastBin .add t132 t2) fun t134 =>
  opt (fastBin .neq t127 t134) fun t135 =>
  test t135
  (some ((.lit (.bool false)), h))
  (S4_2 call r1 t2 t7 t14 t17 h)))))))))))))))

theorem TS4_3 (call : CallF) (r1 : AV → AV → AV → AV → Heap → Res) : (rk Try.prog call 138 (Code.snd (Code.bd (Code.bd (Code.snd (Code.fst (Code.snd (Code.snd (Code.snd (Code.snd (Code.snd (Code.snd (Code.snd (Code.snd (Code.snd (Code.snd (Code.snd c4))))))))))))))))).1 (fun s h => r1 (s.rd 2) (s.rd 7) (s.rd 14) (s.rd 17) h) [(4, (fun s h => S4_0 call h))] (finK Try.prog Try.f4.results.toList) (fun _ => stuckK) = fun s h => S4_3 call r1 (s.rd 2) (s.rd 7) (s.rd 14) (s.rd 17) h := Eq.trans (seq_t (by kernel_rfl) (TS4_2 call r1) rfl) (by funext s h; kernel_rfl)

noncomputable def S4_4b (call : CallF) (r1 : AV → AV → AV → AV → Heap → Res) (t2 : AV) (t7 : AV) (t14 : AV) (t17 : AV) (h : Heap) : Res :=
  opt (lenS t7) fun t94 =>
  opt (fastBin .lss t17 t94) fun t95 =>
  test t95
  (S4_3 call r1 t2 t7 t14 t17 h)
  (S4_0 call h)

theorem TS4_4b (call : CallF) (r1 : AV → AV → AV → AV → Heap → Res) : (rk Try.prog call 138 (Code.bd (Code.bd (Code.snd (Code.fst (Code.snd (Code.snd (Code.snd (Code.snd (Code.snd (Code.snd (Code.snd (Code.snd (Code.snd (Code.snd (Code.snd c4)))))))))))))))).1 (fun s h => r1 (s.rd 2) (s.rd 7) (s.rd 14) (s.rd 17) h) [(4, (fun s h => S4_0 call h))] (finK Try.prog Try.f4.results.toList) (fun _ => stuckK) = fun s h => S4_4b call r1 (s.rd 2) (s.rd 7) (s.rd 14) (s.rd 17) h := Eq.trans (seq_t (by kernel_rfl) (TS4_3 call r1) rfl) (by funext s h; kernel_rfl)

noncomputable def S4_1l (call : CallF) : Nat → AV → AV → AV → AV → Heap → Res
  | 0 => fun _ _ _ _ _ => none
  | k + 1 => S4_4b call (S4_1l call k)

theorem TS4_1l (call : CallF) : (rk Try.prog call 138 (Code.bd (Code.snd (Code.fst (Code.snd (Code.snd (Code.snd (Code.snd (Code.snd (Code.snd (Code.snd (Code.snd (Code.snd (Code.snd (Code.snd c4))))))))))))))).1 (fun s h => S4_0 call h) [(4, (fun s h => S4_0 call h))] (finK Try.prog Try.f4.results.toList) (fun _ => stuckK) = fun s h => S4_1l call rounds (s.rd 2) (s.rd 7) (s.rd 14) (s.rd 17) h :=
  loop_t (by kernel_rfl) (loop_ind (A := fun m => fun s h => S4_1l call m (s.rd 2) (s.rd 7) (s.rd 14) (s.rd 17) h) rfl (fun m => TS4_4b call (S4_1l call m)) rounds)

noncomputable def S4_5 (call : CallF) (t2 : AV) (t7 : AV) (t14 : AV) (t17 : AV) (h : Heap) : Res :=
  S4_1l call rounds t2 t7 t14 t17 h

theorem TS4_5 (call : CallF) : (rk Try.prog call 138 (Code.snd (Code.fst (Code.snd (Code.snd (Code.snd (Code.snd (Code.snd (Code.snd (Code.snd (Code.snd (Code.snd (Code.snd (Code.snd c4)))))))))))))).1 (fun s h => S4_0 call h) [] (finK Try.prog Try.f4.results.toList) (fun _ => stuckK) = fun s h => S4_5 call (s.rd 2) (s.rd 7) (s.rd 14) (s.rd 17) h := Eq.trans (block_t (id := 4) (by kernel_rfl) (TS4_1l call)) (by funext s h; kernel_rfl)

noncomputable def S4_6 (call : CallF) (t2 : AV) (t7 : AV) (t14 : AV) (h : Heap) : Res :=
  S4_5 call t2 t7 t14 (.lit (.int .i64 0)) h

theorem TS4_6 (call : CallF) : (rk Try.prog call 138 (Code.snd (Code.snd (Code.snd (Code.snd (Code.snd (Code.snd (Code.snd (Code.snd (Code.snd (Code.snd (Code.snd c4)))))))))))).1 (finK Try.prog Try.f4.results.toList) [] (finK Try.prog Try.f4.results.toList) (fun _ => stuckK) = fun s h => S4_6 call (s.rd 2) (s.rd 7) (s.rd 14) h := Eq.trans (seq_t (by kernel_rfl) (TS4_0 call) (seq_t (by kernel_rfl) (TS4_5 call) rfl)) (by funext s h; kernel_rfl)

noncomputable def S4_7 (call : CallF) (t2 : AV) (t7 : AV) (t14 : AV) (t15 : AV) (h : Heap) : Res :=
  opt (fastBin .neq t15 (.lit (.int .i64 0))) fun t84 =>
  test t84
  (some ((.lit (.bool false)), h))
  (opt (lenS t14) fun t87 =>
  opt (lenS t7) fun t89 =>
  opt (fastBin .neq t87 t89) fun t90 =>
  test t90
  (some ((.lit (.bool false)), h))
  (S4_6 call t2 t7 t14 h))

theorem TS4_7 (call : CallF) : (rk Try.prog call 138 (Code.snd (Code.snd (Code.snd (Code.snd (Code.snd (Code.snd (Code.snd (Code.snd (Code.snd (Code.snd c4))))))))))).1 (finK Try.prog Try.f4.results.toList) [] (finK Try.prog Try.f4.results.toList) (fun _ => stuckK) = fun s h => S4_7 call (s.rd 2) (s.rd 7) (s.rd 14) (s.rd 15) h := Eq.trans (seq_t (by kernel_rfl) (TS4_6 call) rfl) (by funext s h; kernel_rfl)

noncomputable def S4_8 (call : CallF) (t0 : AV) (t2 : AV) (t7 : AV) (t10 : AV) (t12 : AV) (h : Heap) : Res :=
  opt (fastBin .add t12 t0) fun t75 =>
  opt (fastBin .add t75 (.lit (.string ⟨⟨[10, 59]⟩⟩))) fun t76 =>
  opt (fastBin .add t76 t10) fun t78 =>
  opt2 (call 10 [t78] h) fun t79 h1 =>
  opt (extractX t79 0) fun t80 =>
  opt (extractX t79 1) fun t81 =>
  opt (extractX t79 2) fun t82 =>
  S4_7 call t2 t7 t80 t81 h1

theorem TS4_8 (call : CallF) : (rk Try.prog call 138 (Code.snd (Code.snd (Code.snd (Code.snd (Code.snd (Code.snd (Code.snd (Code.snd (Code.snd c4)))))))))).1 (finK Try.prog Try.f4.results.toList) [] (finK Try.prog Try.f4.results.toList) (fun _ => stuckK) = fun s h => S4_8 call (s.rd 0) (s.rd 2) (s.rd 7) (s.rd 10) (s.rd 12) h := Eq.trans (seq_t (by kernel_rfl) (TS4_7 call) rfl) (by funext s h; kernel_rfl)

noncomputable def S4_10b (call : CallF) (r9 : AV → AV → AV → AV → AV → AV → Heap → Res) (t0 : AV) (t2 : AV) (t7 : AV) (t10 : AV) (t12 : AV) (t13 : AV) (h : Heap) : Res :=
  opt (fastBin .lss t13 t2) fun t62 =>
  test t62
  (opt2 (bsliceX 1 (.lit (.string ⟨⟨[]⟩⟩)) 4 [(0, (.lit (.string ⟨⟨[32]⟩⟩))), (1, (.lit (.string ⟨⟨[9]⟩⟩))), (2, (.lit (.string ⟨⟨[10]⟩⟩))), (3, (.lit (.string ⟨⟨[13]⟩⟩)))] h) fun t66 h1 =>
  opt (binX Try.prog .none .rem 3 t13 (.lit (.int .i64 4))) fun t68 =>
  opt (indexAddrS 1 t66 t68 h1) fun t69 =>
  opt (loadX none t69 h1) fun t70 =>
  opt (fastBin .add t12 t70) fun t71 =>
  opt (fastBin .add t13 (.lit (.int .i64 1))) fun t64 =>
  r9 t0 t2 t7 t10 t71 t64 h1)
  (S4_8 call t0 t2 t7 t10 t12 h)

theorem TS4_10b (call : CallF) (r9 : AV → AV → AV → AV → AV → AV → Heap → Res) : (rk Try.prog call 138 (Code.bd (Code.bd (Code.snd (Code.fst (Code.snd (Code.snd (Code.snd (Code.snd (Code.snd (Code.snd (Code.snd (Code.snd c4))))))))))))).1 (fun s h => r9 (s.rd 0) (s.rd 2) (s.rd 7) (s.rd 10) (s.rd 12) (s.rd 13) h) [(2, (fun s h => S4_8 call (s.rd 0) (s.rd 2) (s.rd 7) (s.rd 10) (s.rd 12) h))] (finK Try.prog Try.f4.results.toList) (fun _ => stuckK) = fun s h => S4_10b call r9 (s.rd 0) (s.rd 2) (s.rd 7) (s.rd 10) (s.rd 12) (s.rd 13) h := by funext s h; kernel_rfl

noncomputable def S4_9l (call : CallF) : Nat → AV → AV → AV → AV → AV → AV → Heap → Res
  | 0 => fun _ _ _ _ _ _ _ => none
  | k + 1 => S4_10b call (S4_9l call k)

theorem TS4_9l (call : CallF) : (rk Try.prog call 138 (Code.bd (Code.snd (Code.fst (Code.snd (Code.snd (Code.snd (Code.snd (Code.snd (Code.snd (Code.snd (Code.snd c4)))))))))))).1 (fun s h => S4_8 call (s.rd 0) (s.rd 2) (s.rd 7) (s.rd 10) (s.rd 12) h) [(2, (fun s h => S4_8 call (s.rd 0) (s.rd 2) (s.rd 7) (s.rd 10) (s.rd 12) h))] (finK Try.prog Try.f4.results.toList) (fun _ => stuckK) = fun s h => S4_9l call rounds (s.rd 0) (s.rd 2) (s.rd 7) (s.rd 10) (s.rd 12) (s.rd 13) h :=
  loop_t (by kernel_rfl) (loop_ind (A := fun m => fun s h => S4_9l call m (s.rd 0) (s.rd 2) (s.rd 7) (s.rd 10) (s.rd 12) (s.rd 13) h) rfl (fun m => TS4_10b call (S4_9l call m)) rounds)

noncomputable def S4_11 (call : CallF) (t0 : AV) (t2 : AV) (t7 : AV) (t10 : AV) (t12 : AV) (t13 : AV) (h : Heap) : Res :=
  S4_9l call rounds t0 t2 t7 t10 t12 t13 h

theorem TS4_11 (call : CallF) : (rk Try.prog call 138 (Code.snd (Code.fst (Code.snd (Code.snd (Code.snd (Code.snd (Code.snd (Code.snd (Code.snd (Code.snd c4))))))))))).1 (fun s h => S4_8 call (s.rd 0) (s.rd 2) (s.rd 7) (s.rd 10) (s.rd 12) h) [] (finK Try.prog Try.f4.results.toList) (fun _ => stuckK) = fun s h => S4_11 call (s.rd 0) (s.rd 2) (s.rd 7) (s.rd 10) (s.rd 12) (s.rd 13) h := Eq.trans (block_t (id := 2) (by kernel_rfl) (TS4_9l call)) (by funext s h; kernel_rfl)

noncomputable def S4_12 (call : CallF) (t0 : AV) (t2 : AV) (t7 : AV) (t10 : AV) (t12 : AV) (h : Heap) : Res :=
  S4_11 call t0 t2 t7 t10 t12 (.lit (.int .i64 0)) h

theorem TS4_12 (call : CallF) : (rk Try.prog call 138 (Code.snd (Code.snd (Code.snd (Code.snd (Code.snd (Code.snd (Code.snd (Code.snd c4))))))))).1 (finK Try.prog Try.f4.results.toList) [] (finK Try.prog Try.f4.results.toList) (fun _ => stuckK) = fun s h => S4_12 call (s.rd 0) (s.rd 2) (s.rd 7) (s.rd 10) (s.rd 12) h := Eq.trans (seq_t (by kernel_rfl) (TS4_8 call) (seq_t (by kernel_rfl) (TS4_11 call) rfl)) (by funext s h; kernel_rfl)

noncomputable def S4_13 (call : CallF) (t0 : AV) (t2 : AV) (t7 : AV) (t10 : AV) (h : Heap) : Res :=
  S4_12 call t0 t2 t7 t10 (.lit (.string ⟨⟨[]⟩⟩)) h

theorem TS4_13 (call : CallF) : (rk Try.prog call 138 (Code.snd (Code.snd (Code.snd (Code.snd (Code.snd (Code.snd (Code.snd c4)))))))).1 (finK Try.prog Try.f4.results.toList) [] (finK Try.prog Try.f4.results.toList) (fun _ => stuckK) = fun s h => S4_13 call (s.rd 0) (s.rd 2) (s.rd 7) (s.rd 10) h := Eq.trans (seq_t (by kernel_rfl) (TS4_12 call) rfl) (by funext s h; kernel_rfl)

noncomputable def S4_14 (call : CallF) (t0 : AV) (t2 : AV) (t7 : AV) (t10 : AV) (h : Heap) : Res :=
  opt (binX Try.prog .none .rem 3 t2 (.lit (.int .i64 40))) fun t59 =>
  S4_13 call t0 t59 t7 t10 h

theorem TS4_14 (call : CallF) : (rk Try.prog call 138 (Code.snd (Code.snd (Code.snd (Code.snd (Code.snd (Code.snd c4))))))).1 (finK Try.prog Try.f4.results.toList) [] (finK Try.prog Try.f4.results.toList) (fun _ => stuckK) = fun s h => S4_14 call (s.rd 0) (s.rd 2) (s.rd 7) (s.rd 10) h := Eq.trans (seq_t (by kernel_rfl) (TS4_13 call) rfl) (by funext s h; kernel_rfl)

noncomputable def S4_15 (call : CallF) (t0 : AV) (t2 : AV) (t7 : AV) (t10 : AV) (h : Heap) : Res :=
  opt (fastBin .lss t2 (.lit (.int .i64 0))) fun t54 =>
  test t54
  (opt (fastBin .add t2 (.lit (.int .i64 1))) fun t56 =>
  opt (litUn Try.prog .neg t56) fun t57 =>
  S4_14 call t0 t57 t7 t10 h)
  (S4_14 call t0 t2 t7 t10 h)

theorem TS4_15 (call : CallF) : (rk Try.prog call 138 (Code.snd (Code.snd (Code.snd (Code.snd (Code.snd c4)))))).1 (finK Try.prog Try.f4.results.toList) [] (finK Try.prog Try.f4.results.toList) (fun _ => stuckK) = fun s h => S4_15 call (s.rd 0) (s.rd 2) (s.rd 7) (s.rd 10) h := Eq.trans (seq_t (by kernel_rfl) (TS4_14 call) rfl) (by funext s h; kernel_rfl)

noncomputable def S4_17 (call : CallF) (r16 : AV → AV → AV → AV → AV → AV → Heap → Res) (t0 : AV) (t1 : AV) (t2 : AV) (t7 : AV) (t10 : AV) (t11 : AV) (h : Heap) : Res :=
  opt (fastBin .add t11 (.lit (.int .i64 1))) fun t41 =>
  r16 t0 t1 t2 t7 t10 t41 h

theorem TS4_17 (call : CallF) (r16 : AV → AV → AV → AV → AV → AV → Heap → Res) : (rk Try.prog call 138 (Code.snd (Code.snd (Code.bd (Code.bd (Code.snd (Code.fst (Code.snd (Code.snd (Code.snd (Code.snd c4))))))))))).1 (fun s h => r16 (s.rd 0) (s.rd 1) (s.rd 2) (s.rd 7) (s.rd 10) (s.rd 11) h) [(0, (fun s h => S4_15 call (s.rd 0) (s.rd 2) (s.rd 7) (s.rd 10) h))] (finK Try.prog Try.f4.results.toList) (fun _ => stuckK) = fun s h => S4_17 call r16 (s.rd 0) (s.rd 1) (s.rd 2) (s.rd 7) (s.rd 10) (s.rd 11) h := by funext s h; kernel_rfl

noncomputable def S4_18 (call : CallF) (r16 : AV → AV → AV → AV → AV → AV → Heap → Res) (t0 : AV) (t1 : AV) (t2 : AV) (t7 : AV) (t10 : AV) (t11 : AV) (h : Heap) : Res :=
  opt (fastIndex t1 t11) fun t44 =>
  opt (fastBin .neq t44 (.lit (.int .u8 10))) fun t45 =>
  test t45
  (opt (fastBin .add t11 (.lit (.int .i64 1))) fun t50 =>
  opt (fastCut t1 (some t11) (some t50) none) fun t51 =>
  opt (fastBin .add t10 t51) fun t52 =>
  S4_17 call r16 t0 t1 t2 t7 t52 t11 h)
  (S4_17 call r16 t0 t1 t2 t7 t10 t11 h)

theorem TS4_18 (call : CallF) (r16 : AV → AV → AV → AV → AV → AV → Heap → Res) : (rk Try.prog call 138 (Code.snd (Code.bd (Code.bd (Code.snd (Code.fst (Code.snd (Code.snd (Code.snd (Code.snd c4)))))))))).1 (fun s h => r16 (s.rd 0) (s.rd 1) (s.rd 2) (s.rd 7) (s.rd 10) (s.rd 11) h) [(0, (fun s h => S4_15 call (s.rd 0) (s.rd 2) (s.rd 7) (s.rd 10) h))] (finK Try.prog Try.f4.results.toList) (fun _ => stuckK) = fun s h => S4_18 call r16 (s.rd 0) (s.rd 1) (s.rd 2) (s.rd 7) (s.rd 10) (s.rd 11) h := Eq.trans (seq_t (by kernel_rfl) (TS4_17 call r16) rfl) (by funext s h; kernel_rfl)

noncomputable def S4_19b (call : CallF) (r16 : AV → AV → AV → AV → AV → AV → Heap → Res) (t0 : AV) (t1 : AV) (t2 : AV) (t7 : AV) (t10 : AV) (t11 : AV) (h : Heap) : Res :=
  opt (lenStr t1) fun t38 =>
  opt (fastBin .lss t11 t38) fun t39 =>
  test t39
  (S4_18 call r16 t0 t1 t2 t7 t10 t11 h)
  (S4_15 call t0 t2 t7 t10 h)

theorem TS4_19b (call : CallF) (r16 : AV → AV → AV → AV → AV → AV → Heap → Res) : (rk Try.prog call 138 (Code.bd (Code.bd (Code.snd (Code.fst (Code.snd (Code.snd (Code.snd (Code.snd c4))))))))).1 (fun s h => r16 (s.rd 0) (s.rd 1) (s.rd 2) (s.rd 7) (s.rd 10) (s.rd 11) h) [(0, (fun s h => S4_15 call (s.rd 0) (s.rd 2) (s.rd 7) (s.rd 10) h))] (finK Try.prog Try.f4.results.toList) (fun _ => stuckK) = fun s h => S4_19b call r16 (s.rd 0) (s.rd 1) (s.rd 2) (s.rd 7) (s.rd 10) (s.rd 11) h := Eq.trans (seq_t (by kernel_rfl) (TS4_18 call r16) rfl) (by funext s h; kernel_rfl)

noncomputable def S4_16l (call : CallF) : Nat → AV → AV → AV → AV → AV → AV → Heap → Res
  | 0 => fun _ _ _ _ _ _ _ => none
  | k + 1 => S4_19b call (S4_16l call k)

theorem TS4_16l (call : CallF) : (rk Try.prog call 138 (Code.bd (Code.snd (Code.fst (Code.snd (Code.snd (Code.snd (Code.snd c4)))))))).1 (fun s h => S4_15 call (s.rd 0) (s.rd 2) (s.rd 7) (s.rd 10) h) [(0, (fun s h => S4_15 call (s.rd 0) (s.rd 2) (s.rd 7) (s.rd 10) h))] (finK Try.prog Try.f4.results.toList) (fun _ => stuckK) = fun s h => S4_16l call rounds (s.rd 0) (s.rd 1) (s.rd 2) (s.rd 7) (s.rd 10) (s.rd 11) h :=
  loop_t (by kernel_rfl) (loop_ind (A := fun m => fun s h => S4_16l call m (s.rd 0) (s.rd 1) (s.rd 2) (s.rd 7) (s.rd 10) (s.rd 11) h) rfl (fun m => TS4_19b call (S4_16l call m)) rounds)

noncomputable def S4_20 (call : CallF) (t0 : AV) (t1 : AV) (t2 : AV) (t7 : AV) (t10 : AV) (t11 : AV) (h : Heap) : Res :=
  S4_16l call rounds t0 t1 t2 t7 t10 t11 h

theorem TS4_20 (call : CallF) : (rk Try.prog call 138 (Code.snd (Code.fst (Code.snd (Code.snd (Code.snd (Code.snd c4))))))).1 (fun s h => S4_15 call (s.rd 0) (s.rd 2) (s.rd 7) (s.rd 10) h) [] (finK Try.prog Try.f4.results.toList) (fun _ => stuckK) = fun s h => S4_20 call (s.rd 0) (s.rd 1) (s.rd 2) (s.rd 7) (s.rd 10) (s.rd 11) h := Eq.trans (block_t (id := 0) (by kernel_rfl) (TS4_16l call)) (by funext s h; kernel_rfl)

noncomputable def S4_21 (call : CallF) (t0 : AV) (t1 : AV) (t2 : AV) (t7 : AV) (t10 : AV) (h : Heap) : Res :=
  S4_20 call t0 t1 t2 t7 t10 (.lit (.int .i64 0)) h

theorem TS4_21 (call : CallF) : (rk Try.prog call 138 (Code.snd (Code.snd (Code.snd (Code.snd c4))))).1 (finK Try.prog Try.f4.results.toList) [] (finK Try.prog Try.f4.results.toList) (fun _ => stuckK) = fun s h => S4_21 call (s.rd 0) (s.rd 1) (s.rd 2) (s.rd 7) (s.rd 10) h := Eq.trans (seq_t (by kernel_rfl) (TS4_15 call) (seq_t (by kernel_rfl) (TS4_20 call) rfl)) (by funext s h; kernel_rfl)

noncomputable def S4_22 (call : CallF) (t0 : AV) (t1 : AV) (t2 : AV) (t7 : AV) (h : Heap) : Res :=
  S4_21 call t0 t1 t2 t7 (.lit (.string ⟨⟨[]⟩⟩)) h

theorem TS4_22 (call : CallF) : (rk Try.prog call 138 (Code.snd (Code.snd (Code.snd c4)))).1 (finK Try.prog Try.f4.results.toList) [] (finK Try.prog Try.f4.results.toList) (fun _ => stuckK) = fun s h => S4_22 call (s.rd 0) (s.rd 1) (s.rd 2) (s.rd 7) h := Eq.trans (seq_t (by kernel_rfl) (TS4_21 call) rfl) (by funext s h; kernel_rfl)

noncomputable def S4_23 (call : CallF) (t0 : AV) (t1 : AV) (t2 : AV) (t7 : AV) (t34 : AV) (h : Heap) : Res :=
  test t34
  (opt2 (call 11 [] h) fun t35 h1 =>
  some (t35, h1))
  (S4_22 call t0 t1 t2 t7 h)

theorem TS4_23 (call : CallF) : (rk Try.prog call 138 (Code.snd (Code.fst (Code.snd (Code.snd c4))))).1 (fun s h => S4_22 call (s.rd 0) (s.rd 1) (s.rd 2) (s.rd 7) h) [] (finK Try.prog Try.f4.results.toList) (fun _ => stuckK) = fun s h => S4_23 call (s.rd 0) (s.rd 1) (s.rd 2) (s.rd 7) (s.rd 34) h := by funext s h; kernel_rfl

noncomputable def S4_24 (call : CallF) (t0 : AV) (t1 : AV) (t2 : AV) (t7 : AV) (t8 : AV) (h : Heap) : Res :=
  opt (fastBin .neq t8 (.lit (.int .i64 0))) fun t25 =>
  test t25
  (S4_23 call t0 t1 t2 t7 (.lit (.bool true)) h)
  (opt (lenStr t0) fun t28 =>
  opt (lenStr t1) fun t30 =>
  opt (fastBin .add t28 t30) fun t31 =>
  opt (fastBin .add t31 (.lit (.int .i64 60))) fun t32 =>
  opt (fastBin .gtr t32 (.lit (.int .i64 8192))) fun t33 =>
  S4_23 call t0 t1 t2 t7 t33 h)

theorem TS4_24 (call : CallF) : (rk Try.prog call 138 (Code.snd (Code.snd c4))).1 (finK Try.prog Try.f4.results.toList) [] (finK Try.prog Try.f4.results.toList) (fun _ => stuckK) = fun s h => S4_24 call (s.rd 0) (s.rd 1) (s.rd 2) (s.rd 7) (s.rd 8) h := Eq.trans (seq_t (by kernel_rfl) (TS4_22 call) (seq_t (by kernel_rfl) (TS4_23 call) rfl)) (by funext s h; kernel_rfl)

noncomputable def S4_25 (call : CallF) (t0 : AV) (t1 : AV) (t2 : AV) (h : Heap) : Res :=
  opt2 (call 10 [t0] h) fun t20 h1 =>
  opt (extractX t20 0) fun t21 =>
  opt (extractX t20 1) fun t22 =>
  opt (extractX t20 2) fun t23 =>
  S4_24 call t0 t1 t2 t21 t22 h1

theorem TS4_25 (call : CallF) : (rk Try.prog call 138 (Code.snd c4)).1 (finK Try.prog Try.f4.results.toList) [] (finK Try.prog Try.f4.results.toList) (fun _ => stuckK) = fun s h => S4_25 call (s.rd 0) (s.rd 1) (s.rd 2) h := Eq.trans (seq_t (by kernel_rfl) (TS4_24 call) rfl) (by funext s h; kernel_rfl)

/-- hawser/hawserlaw3.LexRemarks -/
noncomputable def F4 (call : CallF) (a0 : AV) (a1 : AV) (a2 : AV) (h : Heap) : Res :=
  S4_25 call a0 a1 a2 h

theorem TF4 (call : CallF) (a0 : AV) (a1 : AV) (a2 : AV) (h : Heap) : (rk Try.prog call 138 c4).1 (finK Try.prog Try.f4.results.toList) [] (finK Try.prog Try.f4.results.toList) (fun _ => stuckK) (argsTr gl 0 [a0, a1, a2]) h = F4 call a0 a1 a2 h := Eq.trans (congrFun (congrFun (seq_t (by kernel_rfl) (TS4_25 call) rfl) _) _) (by kernel_rfl)

noncomputable def N4 : FnF
  | call, [a0, a1, a2], h => F4 call a0 a1 a2 h
  | _, _, _ => none

theorem N4_ok : FnOk Try.prog gl 4 N4 := FnOk.of namesOk mixedOrders lowOk Try.func4 (by kernel_rfl) fun call args h r hF => by
  unfold N4 at hF
  split at hF
  · rw [← hF, ← TF4]; exact bodyK_at (by kernel_rfl) (by kernel_rfl) rfl rfl
  · cases hF

noncomputable def c10 : Code := codeOf Try.f10

noncomputable def S10_1 (call : CallF) (r0 : Nat → AV → AV → AV → AV → AV → Heap → Res) (t0 : AV) (t5 : AV) (t6 : AV) (t7 : AV) (t8 : AV) (h : Heap) : Res :=
  r0 3 t0 t5 t6 t7 t8 h

theorem TS10_1 (call : CallF) (r0 : Nat → AV → AV → AV → AV → AV → Heap → Res) : (rk Try.prog call 173 (Code.snd (Code.snd (Code.snd (Code.snd (Code.at_ (Code.bd (Code.snd c10)) 0)))))).1 (finK Try.prog Try.f10.results.toList) [] (finK Try.prog Try.f10.results.toList) (fun l s h => r0 l (s.rd 0) (s.rd 5) (s.rd 6) (s.rd 7) (s.rd 8) h) = fun s h => S10_1 call r0 (s.rd 0) (s.rd 5) (s.rd 6) (s.rd 7) (s.rd 8) h := by funext s h; kernel_rfl

noncomputable def S10_2 (call : CallF) (r0 : Nat → AV → AV → AV → AV → AV → Heap → Res) (t0 : AV) (t5 : AV) (t6 : AV) (t7 : AV) (t8 : AV) (t9 : AV) (t26 : AV) (h : Heap) : Res :=
  test t26
  (opt (fastBin .add t7 (.lit (.int .i64 1))) fun t42 =>
  r0 0 t0 t5 t6 t42 t8 h)
  (opt (fastBin .eql t9 (.lit (.int .u8 59))) fun t45 =>
  test t45
  (r0 1 t0 t5 t6 t7 t8 h)
  (opt (fastBin .eql t9 (.lit (.int .u8 40))) fun t48 =>
  test t48
  (opt (buildX [(.lit (.int .i64 0)), (.lit (.int .i64 0)), (.lit (.string ⟨⟨[]⟩⟩))] [(0, 1), (1, 1), (2, 1)] [(0, (.lit (.int .i64 1))), (1, t7), (2, (.lit (.string ⟨⟨[]⟩⟩)))]) fun t51 =>
  opt2 (bsliceX 3 (.agg [(.lit (.int .i64 0)), (.lit (.int .i64 0)), (.lit (.string ⟨⟨[]⟩⟩))]) 1 [(0, t51)] h) fun t52 h1 =>
  opt2 (appendX 3 32 t5 t52 h1) fun t53 h2 =>
  opt (fastBin .add t7 (.lit (.int .i64 1))) fun t55 =>
  r0 0 t0 t53 t6 t55 t8 h2)
  (opt (fastBin .eql t9 (.lit (.int .u8 41))) fun t58 =>
  test t58
  (opt (buildX [(.lit (.int .i64 0)), (.lit (.int .i64 0)), (.lit (.string ⟨⟨[]⟩⟩))] [(0, 1), (1, 1), (2, 1)] [(0, (.lit (.int .i64 2))), (1, t7), (2, (.lit (.string ⟨⟨[]⟩⟩)))]) fun t61 =>
  opt2 (bsliceX 3 (.agg [(.lit (.int .i64 0)), (.lit (.int .i64 0)), (.lit (.string ⟨⟨[]⟩⟩))]) 1 [(0, t61)] h) fun t62 h3 =>
  opt2 (appendX 3 32 t5 t62 h3) fun t63 h4 =>
  opt (fastBin .add t7 (.lit (.int .i64 1))) fun t65 =>
  r0 0 t0 t63 t6 t65 t8 h4)
  (opt (fastBin .eql t9 (.lit (.int .u8 34))) fun t68 =>
  test t68
  (opt (fastBin .add t7 (.lit (.int .i64 1))) fun t70 =>
  r0 2 t0 t5 (.lit (.slice none 0 0)) t70 t8 h)
  (S10_1 call r0 t0 t5 t6 t7 t8 h)))))

theorem TS10_2 (call : CallF) (r0 : Nat → AV → AV → AV → AV → AV → Heap → Res) : (rk Try.prog call 173 (Code.snd (Code.bd (Code.snd (Code.fst (Code.snd (Code.snd (Code.snd (Code.at_ (Code.bd (Code.snd c10)) 0))))))))).1 (fun s h => S10_1 call r0 (s.rd 0) (s.rd 5) (s.rd 6) (s.rd 7) (s.rd 8) h) [(0, (fun s h => S10_1 call r0 (s.rd 0) (s.rd 5) (s.rd 6) (s.rd 7) (s.rd 8) h))] (finK Try.prog Try.f10.results.toList) (fun l s h => r0 l (s.rd 0) (s.rd 5) (s.rd 6) (s.rd 7) (s.rd 8) h) = fun s h => S10_2 call r0 (s.rd 0) (s.rd 5) (s.rd 6) (s.rd 7) (s.rd 8) (s.rd 9) (s.rd 26) h := by funext s h; kernel_rfl

noncomputable def S10_3 (call : CallF) (r0 : Nat → AV → AV → AV → AV → AV → Heap → Res) (t0 : AV) (t5 : AV) (t6 : AV) (t7 : AV) (t8 : AV) (t9 : AV) (h : Heap) : Res :=
  opt (fastBin .eql t9 (.lit (.int .u8 9))) fun t28 =>
  test t28
  (S10_2 call r0 t0 t5 t6 t7 t8 t9 (.lit (.bool true)) h)
  (opt (fastBin .eql t9 (.lit (.int .u8 10))) fun t31 =>
  test t31
  (S10_2 call r0 t0 t5 t6 t7 t8 t9 (.lit (.bool true)) h)
  (opt (fastBin .eql t9 (.lit (.int .u8 13))) fun t35 =>
  test t35
  (S10_2 call r0 t0 t5 t6 t7 t8 t9 (.lit (.bool true)) h)
  (opt (fastBin .eql t9 (.lit (.int .u8 32))) fun t39 =>
  S10_2 call r0 t0 t5 t6 t7 t8 t9 t39 h)))

theorem TS10_3 (call : CallF) (r0 : Nat → AV → AV → AV → AV → AV → Heap → Res) : (rk Try.prog call 173 (Code.snd (Code.fst (Code.snd (Code.snd (Code.snd (Code.at_ (Code.bd (Code.snd c10)) 0))))))).1 (fun s h => S10_1 call r0 (s.rd 0) (s.rd 5) (s.rd 6) (s.rd 7) (s.rd 8) h) [] (finK Try.prog Try.f10.results.toList) (fun l s h => r0 l (s.rd 0) (s.rd 5) (s.rd 6) (s.rd 7) (s.rd 8) h) = fun s h => S10_3 call r0 (s.rd 0) (s.rd 5) (s.rd 6) (s.rd 7) (s.rd 8) (s.rd 9) h := Eq.trans (block_t (id := 0) (by kernel_rfl) (seq_t (by kernel_rfl) (TS10_2 call r0) rfl)) (by funext s h; kernel_rfl)

noncomputable def S10_4 (call : CallF) (r0 : Nat → AV → AV → AV → AV → AV → Heap → Res) (t0 : AV) (t5 : AV) (t6 : AV) (t7 : AV) (t8 : AV) (h : Heap) : Res :=
  opt (fastIndex t0 t7) fun t25 =>
  S10_3 call r0 t0 t5 t6 t7 t8 t25 h

theorem TS10_4 (call : CallF) (r0 : Nat → AV → AV → AV → AV → AV → Heap → Res) : (rk Try.prog call 173 (Code.snd (Code.snd (Code.snd (Code.at_ (Code.bd (Code.snd c10)) 0))))).1 (finK Try.prog Try.f10.results.toList) [] (finK Try.prog Try.f10.results.toList) (fun l s h => r0 l (s.rd 0) (s.rd 5) (s.rd 6) (s.rd 7) (s.rd 8) h) = fun s h => S10_4 call r0 (s.rd 0) (s.rd 5) (s.rd 6) (s.rd 7) (s.rd 8) h := Eq.trans (seq_t (by kernel_rfl) (TS10_1 call r0) (seq_t (by kernel_rfl) (TS10_3 call r0) rfl)) (by funext s h; kernel_rfl)

noncomputable def S10_5 (call : CallF) (r0 : Nat → AV → AV → AV → AV → AV → Heap → Res) (t0 : AV) (t5 : AV) (t6 : AV) (t7 : AV) (h : Heap) : Res :=
  S10_4 call r0 t0 t5 t6 t7 t7 h

theorem TS10_5 (call : CallF) (r0 : Nat → AV → AV → AV → AV → AV → Heap → Res) : (rk Try.prog call 173 (Code.snd (Code.snd (Code.at_ (Code.bd (Code.snd c10)) 0)))).1 (finK Try.prog Try.f10.results.toList) [] (finK Try.prog Try.f10.results.toList) (fun l s h => r0 l (s.rd 0) (s.rd 5) (s.rd 6) (s.rd 7) (s.rd 8) h) = fun s h => S10_5 call r0 (s.rd 0) (s.rd 5) (s.rd 6) (s.rd 7) h := Eq.trans (seq_t (by kernel_rfl) (TS10_4 call r0) rfl) (by funext s h; kernel_rfl)

noncomputable def S10_6 (call : CallF) (r0 : Nat → AV → AV → AV → AV → AV → Heap → Res) (t0 : AV) (t5 : AV) (t6 : AV) (t7 : AV) (h : Heap) : Res :=
  opt (lenStr t0) fun t19 =>
  opt (fastBin .eql t7 t19) fun t20 =>
  test t20
  (some ((.tup [t5, (.lit (.int .i64 0)), (.lit (.int .i64 0))]), h))
  (S10_5 call r0 t0 t5 t6 t7 h)

theorem TS10_6 (call : CallF) (r0 : Nat → AV → AV → AV → AV → AV → Heap → Res) : (rk Try.prog call 173 (Code.snd (Code.at_ (Code.bd (Code.snd c10)) 0))).1 (finK Try.prog Try.f10.results.toList) [] (finK Try.prog Try.f10.results.toList) (fun l s h => r0 l (s.rd 0) (s.rd 5) (s.rd 6) (s.rd 7) (s.rd 8) h) = fun s h => S10_6 call r0 (s.rd 0) (s.rd 5) (s.rd 6) (s.rd 7) h := Eq.trans (seq_t (by kernel_rfl) (TS10_5 call r0) rfl) (by funext s h; kernel_rfl)

noncomputable def S10_7L0_ (call : CallF) (r0 : Nat → AV → AV → AV → AV → AV → Heap → Res) (t0 : AV) (t5 : AV) (t6 : AV) (t7 : AV) (t8 : AV) (h : Heap) : Res :=
  S10_6 call r0 t0 t5 t6 t7 h

theorem TS10_7L0_ (call : CallF) (r0 : Nat → AV → AV → AV → AV → AV → Heap → Res) : (rk Try.prog call 173 (Code.at_ (Code.bd (Code.snd c10)) 0)).1 (finK Try.prog Try.f10.results.toList) [] (finK Try.prog Try.f10.results.toList) (fun l s h => r0 l (s.rd 0) (s.rd 5) (s.rd 6) (s.rd 7) (s.rd 8) h) = fun s h => S10_7L0_ call r0 (s.rd 0) (s.rd 5) (s.rd 6) (s.rd 7) (s.rd 8) h := Eq.trans (seq_t (by kernel_rfl) (TS10_6 call r0) rfl) (by funext s h; kernel_rfl)

noncomputable def S10_8 (call : CallF) (r0 : Nat → AV → AV → AV → AV → AV → Heap → Res) (t0 : AV) (t5 : AV) (t6 : AV) (t7 : AV) (t8 : AV) (h : Heap) : Res :=
  r0 0 t0 t5 t6 t7 t8 h

theorem TS10_8 (call : CallF) (r0 : Nat → AV → AV → AV → AV → AV → Heap → Res) : (rk Try.prog call 173 (Code.snd (Code.snd (Code.at_ (Code.bd (Code.snd c10)) 1)))).1 (finK Try.prog Try.f10.results.toList) [] (finK Try.prog Try.f10.results.toList) (fun l s h => r0 l (s.rd 0) (s.rd 5) (s.rd 6) (s.rd 7) (s.rd 8) h) = fun s h => S10_8 call r0 (s.rd 0) (s.rd 5) (s.rd 6) (s.rd 7) (s.rd 8) h := by funext s h; kernel_rfl

noncomputable def S10_9 (call : CallF) (r0 : Nat → AV → AV → AV → AV → AV → Heap → Res) (t0 : AV) (t5 : AV) (t6 : AV) (t7 : AV) (t8 : AV) (t80 : AV) (h : Heap) : Res :=
  test t80
  (opt (fastBin .add t7 (.lit (.int .i64 1))) fun t82 =>
  r0 1 t0 t5 t6 t82 t8 h)
  (S10_8 call r0 t0 t5 t6 t7 t8 h)

theorem TS10_9 (call : CallF) (r0 : Nat → AV → AV → AV → AV → AV → Heap → Res) : (rk Try.prog call 173 (Code.snd (Code.fst (Code.snd (Code.at_ (Code.bd (Code.snd c10)) 1))))).1 (fun s h => S10_8 call r0 (s.rd 0) (s.rd 5) (s.rd 6) (s.rd 7) (s.rd 8) h) [] (finK Try.prog Try.f10.results.toList) (fun l s h => r0 l (s.rd 0) (s.rd 5) (s.rd 6) (s.rd 7) (s.rd 8) h) = fun s h => S10_9 call r0 (s.rd 0) (s.rd 5) (s.rd 6) (s.rd 7) (s.rd 8) (s.rd 80) h := by funext s h; kernel_rfl

noncomputable def S10_10 (call : CallF) (r0 : Nat → AV → AV → AV → AV → AV → Heap → Res) (t0 : AV) (t5 : AV) (t6 : AV) (t7 : AV) (t8 : AV) (h : Heap) : Res :=
  opt (lenStr t0) fun t73 =>
  opt (fastBin .lss t7 t73) fun t74 =>
  test t74
  (opt (fastIndex t0 t7) fun t78 =>
  opt (fastBin .neq t78 (.lit (.int .u8 10))) fun t79 =>
  S10_9 call r0 t0 t5 t6 t7 t8 t79 h)
  (S10_9 call r0 t0 t5 t6 t7 t8 (.lit (.bool false)) h)

theorem TS10_10 (call : CallF) (r0 : Nat → AV → AV → AV → AV → AV → Heap → Res) : (rk Try.prog call 173 (Code.snd (Code.at_ (Code.bd (Code.snd c10)) 1))).1 (finK Try.prog Try.f10.results.toList) [] (finK Try.prog Try.f10.results.toList) (fun l s h => r0 l (s.rd 0) (s.rd 5) (s.rd 6) (s.rd 7) (s.rd 8) h) = fun s h => S10_10 call r0 (s.rd 0) (s.rd 5) (s.rd 6) (s.rd 7) (s.rd 8) h := Eq.trans (seq_t (by kernel_rfl) (TS10_8 call r0) (seq_t (by kernel_rfl) (TS10_9 call r0) rfl)) (by funext s h; kernel_rfl)

noncomputable def S10_11L1_ (call : CallF) (r0 : Nat → AV → AV → AV → AV → AV → Heap → Res) (t0 : AV) (t5 : AV) (t6 : AV) (t7 : AV) (t8 : AV) (h : Heap) : Res :=
  S10_10 call r0 t0 t5 t6 t7 t8 h

theorem TS10_11L1_ (call : CallF) (r0 : Nat → AV → AV → AV → AV → AV → Heap → Res) : (rk Try.prog call 173 (Code.at_ (Code.bd (Code.snd c10)) 1)).1 (finK Try.prog Try.f10.results.toList) [] (finK Try.prog Try.f10.results.toList) (fun l s h => r0 l (s.rd 0) (s.rd 5) (s.rd 6) (s.rd 7) (s.rd 8) h) = fun s h => S10_11L1_ call r0 (s.rd 0) (s.rd 5) (s.rd 6) (s.rd 7) (s.rd 8) h := Eq.trans (seq_t (by kernel_rfl) (TS10_10 call r0) rfl) (by funext s h; kernel_rfl)

noncomputable def S10_12 (call : CallF) (r0 : Nat → AV → AV → AV → AV → AV → Heap → Res) (t0 : AV) (t5 : AV) (t6 : AV) (t7 : AV) (t8 : AV) (h : Heap) : Res :=
  r0 2 t0 t5 t6 t7 t8 h

theorem TS10_12 (call : CallF) (r0 : Nat → AV → AV → AV → AV → AV → Heap → Res) : (rk Try.prog call 173 (Code.snd (Code.snd (Code.snd (Code.at_ (Code.bd (Code.snd c10)) 2))))).1 (finK Try.prog Try.f10.results.toList) [] (finK Try.prog Try.f10.results.toList) (fun l s h => r0 l (s.rd 0) (s.rd 5) (s.rd 6) (s.rd 7) (s.rd 8) h) = fun s h => S10_12 call r0 (s.rd 0) (s.rd 5) (s.rd 6) (s.rd 7) (s.rd 8) h := by funext s h; kernel_rfl

noncomputable def S10_13 (call : CallF) (r0 : Nat → AV → AV → AV → AV → AV → Heap → Res) (t0 : AV) (t5 : AV) (t6 : AV) (t7 : AV) (t8 : AV) (t10 : AV) (t135 : AV) (h : Heap) : Res :=
  test t135
  (some ((.tup [(.lit (.slice none 0 0)), (.lit (.int .i64 12)), t7]), h))
  (opt2 (bsliceX 1 (.lit (.int .u8 0)) 1 [(0, t10)] h) fun t93 h1 =>
  opt2 (appendX 1 1 t6 t93 h1) fun t94 h2 =>
  opt (fastBin .add t7 (.lit (.int .i64 1))) fun t96 =>
  S10_12 call r0 t0 t5 t94 t96 t8 h2)

theorem TS10_13 (call : CallF) (r0 : Nat → AV → AV → AV → AV → AV → Heap → Res) : (rk Try.prog call 173 (Code.snd (Code.els (Code.snd (Code.els (Code.snd (Code.bd (Code.snd (Code.fst (Code.snd (Code.snd (Code.at_ (Code.bd (Code.snd c10)) 2)))))))))))).1 (fun s h => S10_12 call r0 (s.rd 0) (s.rd 5) (s.rd 6) (s.rd 7) (s.rd 8) h) [(1, (fun s h => S10_12 call r0 (s.rd 0) (s.rd 5) (s.rd 6) (s.rd 7) (s.rd 8) h))] (finK Try.prog Try.f10.results.toList) (fun l s h => r0 l (s.rd 0) (s.rd 5) (s.rd 6) (s.rd 7) (s.rd 8) h) = fun s h => S10_13 call r0 (s.rd 0) (s.rd 5) (s.rd 6) (s.rd 7) (s.rd 8) (s.rd 10) (s.rd 135) h := by funext s h; kernel_rfl

noncomputable def S10_14 (call : CallF) (r0 : Nat → AV → AV → AV → AV → AV → Heap → Res) (t0 : AV) (t5 : AV) (t6 : AV) (t7 : AV) (t8 : AV) (t10 : AV) (h : Heap) : Res :=
  opt (fastBin .lss t10 (.lit (.int .u8 32))) fun t137 =>
  test t137
  (S10_13 call r0 t0 t5 t6 t7 t8 t10 (.lit (.bool true)) h)
  (opt (fastBin .gtr t10 (.lit (.int .u8 126))) fun t140 =>
  S10_13 call r0 t0 t5 t6 t7 t8 t10 t140 h)

theorem TS10_14 (call : CallF) (r0 : Nat → AV → AV → AV → AV → AV → Heap → Res) : (rk Try.prog call 173 (Code.els (Code.snd (Code.els (Code.snd (Code.bd (Code.snd (Code.fst (Code.snd (Code.snd (Code.at_ (Code.bd (Code.snd c10)) 2))))))))))).1 (fun s h => S10_12 call r0 (s.rd 0) (s.rd 5) (s.rd 6) (s.rd 7) (s.rd 8) h) [(1, (fun s h => S10_12 call r0 (s.rd 0) (s.rd 5) (s.rd 6) (s.rd 7) (s.rd 8) h))] (finK Try.prog Try.f10.results.toList) (fun l s h => r0 l (s.rd 0) (s.rd 5) (s.rd 6) (s.rd 7) (s.rd 8) h) = fun s h => S10_14 call r0 (s.rd 0) (s.rd 5) (s.rd 6) (s.rd 7) (s.rd 8) (s.rd 10) h := Eq.trans (seq_t (by kernel_rfl) (TS10_13 call r0) rfl) (by funext s h; kernel_rfl)

noncomputable def S10_15 (call : CallF) (r0 : Nat → AV → AV → AV → AV → AV → Heap → Res) (t0 : AV) (t5 : AV) (t6 : AV) (t7 : AV) (t8 : AV) (t10 : AV) (t113 : AV) (h : Heap) : Res :=
  test t113
  (opt (fastBin .add t7 (.lit (.int .i64 1))) fun t119 =>
  opt (fastCut t0 (some t119) none none) fun t120 =>
  opt2 (call 20 [t120] h) fun t121 h1 =>
  opt (extractX t121 0) fun t122 =>
  opt (extractX t121 1) fun t123 =>
  opt (fastBin .eql t123 (.lit (.int .i64 0))) fun t125 =>
  test t125
  (some ((.tup [(.lit (.slice none 0 0)), (.lit (.int .i64 12)), t7]), h1))
  (opt2 (bsliceX 1 (.lit (.int .u8 0)) 1 [(0, t122)] h1) fun t129 h2 =>
  opt2 (appendX 1 1 t6 t129 h2) fun t130 h3 =>
  opt (fastBin .add (.lit (.int .i64 1)) t123) fun t133 =>
  opt (fastBin .add t7 t133) fun t134 =>
  S10_12 call r0 t0 t5 t130 t134 t8 h3))
  (S10_14 call r0 t0 t5 t6 t7 t8 t10 h)

theorem TS10_15 (call : CallF) (r0 : Nat → AV → AV → AV → AV → AV → Heap → Res) : (rk Try.prog call 173 (Code.snd (Code.els (Code.snd (Code.bd (Code.snd (Code.fst (Code.snd (Code.snd (Code.at_ (Code.bd (Code.snd c10)) 2)))))))))).1 (fun s h => S10_12 call r0 (s.rd 0) (s.rd 5) (s.rd 6) (s.rd 7) (s.rd 8) h) [(1, (fun s h => S10_12 call r0 (s.rd 0) (s.rd 5) (s.rd 6) (s.rd 7) (s.rd 8) h))] (finK Try.prog Try.f10.results.toList) (fun l s h => r0 l (s.rd 0) (s.rd 5) (s.rd 6) (s.rd 7) (s.rd 8) h) = fun s h => S10_15 call r0 (s.rd 0) (s.rd 5) (s.rd 6) (s.rd 7) (s.rd 8) (s.rd 10) (s.rd 113) h := Eq.trans (cond_t (by kernel_rfl) rfl (TS10_14 call r0)) (by funext s h; kernel_rfl)

noncomputable def S10_16 (call : CallF) (r0 : Nat → AV → AV → AV → AV → AV → Heap → Res) (t0 : AV) (t5 : AV) (t6 : AV) (t7 : AV) (t8 : AV) (t10 : AV) (h : Heap) : Res :=
  opt (fastBin .eql t10 (.lit (.int .u8 92))) fun t115 =>
  S10_15 call r0 t0 t5 t6 t7 t8 t10 t115 h

theorem TS10_16 (call : CallF) (r0 : Nat → AV → AV → AV → AV → AV → Heap → Res) : (rk Try.prog call 173 (Code.els (Code.snd (Code.bd (Code.snd (Code.fst (Code.snd (Code.snd (Code.at_ (Code.bd (Code.snd c10)) 2))))))))).1 (fun s h => S10_12 call r0 (s.rd 0) (s.rd 5) (s.rd 6) (s.rd 7) (s.rd 8) h) [(1, (fun s h => S10_12 call r0 (s.rd 0) (s.rd 5) (s.rd 6) (s.rd 7) (s.rd 8) h))] (finK Try.prog Try.f10.results.toList) (fun l s h => r0 l (s.rd 0) (s.rd 5) (s.rd 6) (s.rd 7) (s.rd 8) h) = fun s h => S10_16 call r0 (s.rd 0) (s.rd 5) (s.rd 6) (s.rd 7) (s.rd 8) (s.rd 10) h := Eq.trans (seq_t (by kernel_rfl) (TS10_15 call r0) rfl) (by funext s h; kernel_rfl)

noncomputable def S10_17 (call : CallF) (r0 : Nat → AV → AV → AV → AV → AV → Heap → Res) (t0 : AV) (t5 : AV) (t6 : AV) (t7 : AV) (t8 : AV) (t10 : AV) (t97 : AV) (h : Heap) : Res :=
  test t97
  (opt (lenS t6) fun t101 =>
  opt (fastBin .gtr t101 (.lit (.int .i64 200))) fun t102 =>
  test t102
  (some ((.tup [(.lit (.slice none 0 0)), (.lit (.int .i64 3)), t8]), h))
  (opt (b2sX t6 h) fun t107 =>
  opt (buildX [(.lit (.int .i64 0)), (.lit (.int .i64 0)), (.lit (.string ⟨⟨[]⟩⟩))] [(0, 1), (1, 1), (2, 1)] [(0, (.lit (.int .i64 4))), (1, t8), (2, t107)]) fun t108 =>
  opt2 (bsliceX 3 (.agg [(.lit (.int .i64 0)), (.lit (.int .i64 0)), (.lit (.string ⟨⟨[]⟩⟩))]) 1 [(0, t108)] h) fun t109 h1 =>
  opt2 (appendX 3 32 t5 t109 h1) fun t110 h2 =>
  opt (fastBin .add t7 (.lit (.int .i64 1))) fun t112 =>
  r0 0 t0 t110 t6 t112 t8 h2))
  (S10_16 call r0 t0 t5 t6 t7 t8 t10 h)

theorem TS10_17 (call : CallF) (r0 : Nat → AV → AV → AV → AV → AV → Heap → Res) : (rk Try.prog call 173 (Code.snd (Code.bd (Code.snd (Code.fst (Code.snd (Code.snd (Code.at_ (Code.bd (Code.snd c10)) 2)))))))).1 (fun s h => S10_12 call r0 (s.rd 0) (s.rd 5) (s.rd 6) (s.rd 7) (s.rd 8) h) [(1, (fun s h => S10_12 call r0 (s.rd 0) (s.rd 5) (s.rd 6) (s.rd 7) (s.rd 8) h))] (finK Try.prog Try.f10.results.toList) (fun l s h => r0 l (s.rd 0) (s.rd 5) (s.rd 6) (s.rd 7) (s.rd 8) h) = fun s h => S10_17 call r0 (s.rd 0) (s.rd 5) (s.rd 6) (s.rd 7) (s.rd 8) (s.rd 10) (s.rd 97) h := Eq.trans (cond_t (by kernel_rfl) rfl (TS10_16 call r0)) (by funext s h; kernel_rfl)

noncomputable def S10_18 (call : CallF) (r0 : Nat → AV → AV → AV → AV → AV → Heap → Res) (t0 : AV) (t5 : AV) (t6 : AV) (t7 : AV) (t8 : AV) (t10 : AV) (h : Heap) : Res :=
  opt (fastBin .eql t10 (.lit (.int .u8 34))) fun t99 =>
  S10_17 call r0 t0 t5 t6 t7 t8 t10 t99 h

theorem TS10_18 (call : CallF) (r0 : Nat → AV → AV → AV → AV → AV → Heap → Res) : (rk Try.prog call 173 (Code.snd (Code.fst (Code.snd (Code.snd (Code.at_ (Code.bd (Code.snd c10)) 2)))))).1 (fun s h => S10_12 call r0 (s.rd 0) (s.rd 5) (s.rd 6) (s.rd 7) (s.rd 8) h) [] (finK Try.prog Try.f10.results.toList) (fun l s h => r0 l (s.rd 0) (s.rd 5) (s.rd 6) (s.rd 7) (s.rd 8) h) = fun s h => S10_18 call r0 (s.rd 0) (s.rd 5) (s.rd 6) (s.rd 7) (s.rd 8) (s.rd 10) h := Eq.trans (block_t (id := 1) (by kernel_rfl) (seq_t (by kernel_rfl) (TS10_17 call r0) rfl)) (by funext s h; kernel_rfl)

noncomputable def S10_19 (call : CallF) (r0 : Nat → AV → AV → AV → AV → AV → Heap → Res) (t0 : AV) (t5 : AV) (t6 : AV) (t7 : AV) (t8 : AV) (h : Heap) : Res :=
  opt (fastIndex t0 t7) fun t90 =>
  S10_18 call r0 t0 t5 t6 t7 t8 t90 h

theorem TS10_19 (call : CallF) (r0 : Nat → AV → AV → AV → AV → AV → Heap → Res) : (rk Try.prog call 173 (Code.snd (Code.snd (Code.at_ (Code.bd (Code.snd c10)) 2)))).1 (finK Try.prog Try.f10.results.toList) [] (finK Try.prog Try.f10.results.toList) (fun l s h => r0 l (s.rd 0) (s.rd 5) (s.rd 6) (s.rd 7) (s.rd 8) h) = fun s h => S10_19 call r0 (s.rd 0) (s.rd 5) (s.rd 6) (s.rd 7) (s.rd 8) h := Eq.trans (seq_t (by kernel_rfl) (TS10_12 call r0) (seq_t (by kernel_rfl) (TS10_18 call r0) rfl)) (by funext s h; kernel_rfl)

noncomputable def S10_20 (call : CallF) (r0 : Nat → AV → AV → AV → AV → AV → Heap → Res) (t0 : AV) (t5 : AV) (t6 : AV) (t7 : AV) (t8 : AV) (h : Heap) : Res :=
  opt (lenStr t0) fun t85 =>
  opt (fastBin .eql t7 t85) fun t86 =>
  test t86
  (some ((.tup [(.lit (.slice none 0 0)), (.lit (.int .i64 10)), t8]), h))
  (S10_19 call r0 t0 t5 t6 t7 t8 h)

theorem TS10_20 (call : CallF) (r0 : Nat → AV → AV → AV → AV → AV → Heap → Res) : (rk Try.prog call 173 (Code.snd (Code.at_ (Code.bd (Code.snd c10)) 2))).1 (finK Try.prog Try.f10.results.toList) [] (finK Try.prog Try.f10.results.toList) (fun l s h => r0 l (s.rd 0) (s.rd 5) (s.rd 6) (s.rd 7) (s.rd 8) h) = fun s h => S10_20 call r0 (s.rd 0) (s.rd 5) (s.rd 6) (s.rd 7) (s.rd 8) h := Eq.trans (seq_t (by kernel_rfl) (TS10_19 call r0) rfl) (by funext s h; kernel_rfl)

noncomputable def S10_21L2_ (call : CallF) (r0 : Nat → AV → AV → AV → AV → AV → Heap → Res) (t0 : AV) (t5 : AV) (t6 : AV) (t7 : AV) (t8 : AV) (h : Heap) : Res :=
  S10_20 call r0 t0 t5 t6 t7 t8 h

theorem TS10_21L2_ (call : CallF) (r0 : Nat → AV → AV → AV → AV → AV → Heap → Res) : (rk Try.prog call 173 (Code.at_ (Code.bd (Code.snd c10)) 2)).1 (finK Try.prog Try.f10.results.toList) [] (finK Try.prog Try.f10.results.toList) (fun l s h => r0 l (s.rd 0) (s.rd 5) (s.rd 6) (s.rd 7) (s.rd 8) h) = fun s h => S10_21L2_ call r0 (s.rd 0) (s.rd 5) (s.rd 6) (s.rd 7) (s.rd 8) h := Eq.trans (seq_t (by kernel_rfl) (TS10_20 call r0) rfl) (by funext s h; kernel_rfl)

noncomputable def S10_22 (call : CallF) (r0 : Nat → AV → AV → AV → AV → AV → Heap → Res) (t0 : AV) (t5 : AV) (t6 : AV) (t7 : AV) (t8 : AV) (h : Heap) : Res :=
  opt (fastCut t0 (some t8) (some t7) none) fun t169 =>
  opt (buildX [(.lit (.int .i64 0)), (.lit (.int .i64 0)), (.lit (.string ⟨⟨[]⟩⟩))] [(0, 1), (1, 1), (2, 1)] [(0, (.lit (.int .i64 3))), (1, t8), (2, t169)]) fun t170 =>
  opt2 (bsliceX 3 (.agg [(.lit (.int .i64 0)), (.lit (.int .i64 0)), (.lit (.string ⟨⟨[]⟩⟩))]) 1 [(0, t170)] h) fun t171 h1 =>
  opt2 (appendX 3 32 t5 t171 h1) fun t172 h2 =>
  r0 0 t0 t172 t6 t7 t8 h2

theorem TS10_22 (call : CallF) (r0 : Nat → AV → AV → AV → AV → AV → Heap → Res) : (rk Try.prog call 173 (Code.snd (Code.snd (Code.at_ (Code.bd (Code.snd c10)) 3)))).1 (finK Try.prog Try.f10.results.toList) [] (finK Try.prog Try.f10.results.toList) (fun l s h => r0 l (s.rd 0) (s.rd 5) (s.rd 6) (s.rd 7) (s.rd 8) h) = fun s h => S10_22 call r0 (s.rd 0) (s.rd 5) (s.rd 6) (s.rd 7) (s.rd 8) h := by funext s h; kernel_rfl

noncomputable def S10_23 (call : CallF) (r0 : Nat → AV → AV → AV → AV → AV → Heap → Res) (t0 : AV) (t5 : AV) (t6 : AV) (t7 : AV) (t8 : AV) (t156 : AV) (h : Heap) : Res :=
  test t156
  (some ((.tup [(.lit (.slice none 0 0)), (.lit (.int .i64 12)), t7]), h))
  (opt (fastBin .add t7 (.lit (.int .i64 1))) fun t151 =>
  r0 3 t0 t5 t6 t151 t8 h)

theorem TS10_23 (call : CallF) (r0 : Nat → AV → AV → AV → AV → AV → Heap → Res) : (rk Try.prog call 173 (Code.snd (Code.els (Code.snd (Code.bd (Code.snd (Code.thn (Code.snd (Code.fst (Code.snd (Code.at_ (Code.bd (Code.snd c10)) 3))))))))))).1 (fun s h => S10_22 call r0 (s.rd 0) (s.rd 5) (s.rd 6) (s.rd 7) (s.rd 8) h) [(2, (fun s h => S10_22 call r0 (s.rd 0) (s.rd 5) (s.rd 6) (s.rd 7) (s.rd 8) h))] (finK Try.prog Try.f10.results.toList) (fun l s h => r0 l (s.rd 0) (s.rd 5) (s.rd 6) (s.rd 7) (s.rd 8) h) = fun s h => S10_23 call r0 (s.rd 0) (s.rd 5) (s.rd 6) (s.rd 7) (s.rd 8) (s.rd 156) h := by funext s h; kernel_rfl

noncomputable def S10_24 (call : CallF) (r0 : Nat → AV → AV → AV → AV → AV → Heap → Res) (t0 : AV) (t5 : AV) (t6 : AV) (t7 : AV) (t8 : AV) (t13 : AV) (h : Heap) : Res :=
  opt (fastBin .lss t13 (.lit (.int .u8 33))) fun t158 =>
  test t158
  (S10_23 call r0 t0 t5 t6 t7 t8 (.lit (.bool true)) h)
  (opt (fastBin .gtr t13 (.lit (.int .u8 126))) fun t161 =>
  S10_23 call r0 t0 t5 t6 t7 t8 t161 h)

theorem TS10_24 (call : CallF) (r0 : Nat → AV → AV → AV → AV → AV → Heap → Res) : (rk Try.prog call 173 (Code.els (Code.snd (Code.bd (Code.snd (Code.thn (Code.snd (Code.fst (Code.snd (Code.at_ (Code.bd (Code.snd c10)) 3)))))))))).1 (fun s h => S10_22 call r0 (s.rd 0) (s.rd 5) (s.rd 6) (s.rd 7) (s.rd 8) h) [(2, (fun s h => S10_22 call r0 (s.rd 0) (s.rd 5) (s.rd 6) (s.rd 7) (s.rd 8) h))] (finK Try.prog Try.f10.results.toList) (fun l s h => r0 l (s.rd 0) (s.rd 5) (s.rd 6) (s.rd 7) (s.rd 8) h) = fun s h => S10_24 call r0 (s.rd 0) (s.rd 5) (s.rd 6) (s.rd 7) (s.rd 8) (s.rd 13) h := Eq.trans (seq_t (by kernel_rfl) (TS10_23 call r0) rfl) (by funext s h; kernel_rfl)

noncomputable def S10_25 (call : CallF) (r0 : Nat → AV → AV → AV → AV → AV → Heap → Res) (t0 : AV) (t5 : AV) (t6 : AV) (t7 : AV) (t8 : AV) (t13 : AV) (t152 : AV) (h : Heap) : Res :=
  test t152
  (S10_22 call r0 t0 t5 t6 t7 t8 h)
  (S10_24 call r0 t0 t5 t6 t7 t8 t13 h)

theorem TS10_25 (call : CallF) (r0 : Nat → AV → AV → AV → AV → AV → Heap → Res) : (rk Try.prog call 173 (Code.snd (Code.bd (Code.snd (Code.thn (Code.snd (Code.fst (Code.snd (Code.at_ (Code.bd (Code.snd c10)) 3))))))))).1 (fun s h => S10_22 call r0 (s.rd 0) (s.rd 5) (s.rd 6) (s.rd 7) (s.rd 8) h) [(2, (fun s h => S10_22 call r0 (s.rd 0) (s.rd 5) (s.rd 6) (s.rd 7) (s.rd 8) h))] (finK Try.prog Try.f10.results.toList) (fun l s h => r0 l (s.rd 0) (s.rd 5) (s.rd 6) (s.rd 7) (s.rd 8) h) = fun s h => S10_25 call r0 (s.rd 0) (s.rd 5) (s.rd 6) (s.rd 7) (s.rd 8) (s.rd 13) (s.rd 152) h := Eq.trans (cond_t (by kernel_rfl) rfl (TS10_24 call r0)) (by funext s h; kernel_rfl)

noncomputable def S10_26 (call : CallF) (r0 : Nat → AV → AV → AV → AV → AV → Heap → Res) (t0 : AV) (t5 : AV) (t6 : AV) (t7 : AV) (t8 : AV) (t13 : AV) (h : Heap) : Res :=
  opt2 (call 21 [(.lit (.string ⟨⟨[9, 10, 13, 32, 59, 40, 41, 34]⟩⟩)), t13] h) fun t154 h1 =>
  opt (fastBin .geq t154 (.lit (.int .i64 0))) fun t155 =>
  S10_25 call r0 t0 t5 t6 t7 t8 t13 t155 h1

theorem TS10_26 (call : CallF) (r0 : Nat → AV → AV → AV → AV → AV → Heap → Res) : (rk Try.prog call 173 (Code.snd (Code.thn (Code.snd (Code.fst (Code.snd (Code.at_ (Code.bd (Code.snd c10)) 3))))))).1 (fun s h => S10_22 call r0 (s.rd 0) (s.rd 5) (s.rd 6) (s.rd 7) (s.rd 8) h) [] (finK Try.prog Try.f10.results.toList) (fun l s h => r0 l (s.rd 0) (s.rd 5) (s.rd 6) (s.rd 7) (s.rd 8) h) = fun s h => S10_26 call r0 (s.rd 0) (s.rd 5) (s.rd 6) (s.rd 7) (s.rd 8) (s.rd 13) h := Eq.trans (block_t (id := 2) (by kernel_rfl) (seq_t (by kernel_rfl) (TS10_25 call r0) rfl)) (by funext s h; kernel_rfl)

noncomputable def S10_27 (call : CallF) (r0 : Nat → AV → AV → AV → AV → AV → Heap → Res) (t0 : AV) (t5 : AV) (t6 : AV) (t7 : AV) (t8 : AV) (h : Heap) : Res :=
  opt (fastIndex t0 t7) fun t149 =>
  S10_26 call r0 t0 t5 t6 t7 t8 t149 h

theorem TS10_27 (call : CallF) (r0 : Nat → AV → AV → AV → AV → AV → Heap → Res) : (rk Try.prog call 173 (Code.thn (Code.snd (Code.fst (Code.snd (Code.at_ (Code.bd (Code.snd c10)) 3)))))).1 (fun s h => S10_22 call r0 (s.rd 0) (s.rd 5) (s.rd 6) (s.rd 7) (s.rd 8) h) [] (finK Try.prog Try.f10.results.toList) (fun l s h => r0 l (s.rd 0) (s.rd 5) (s.rd 6) (s.rd 7) (s.rd 8) h) = fun s h => S10_27 call r0 (s.rd 0) (s.rd 5) (s.rd 6) (s.rd 7) (s.rd 8) h := Eq.trans (seq_t (by kernel_rfl) (TS10_26 call r0) rfl) (by funext s h; kernel_rfl)

noncomputable def S10_28 (call : CallF) (r0 : Nat → AV → AV → AV → AV → AV → Heap → Res) (t0 : AV) (t5 : AV) (t6 : AV) (t7 : AV) (t8 : AV) (t146 : AV) (h : Heap) : Res :=
  test t146
  (S10_27 call r0 t0 t5 t6 t7 t8 h)
  (S10_22 call r0 t0 t5 t6 t7 t8 h)

theorem TS10_28 (call : CallF) (r0 : Nat → AV → AV → AV → AV → AV → Heap → Res) : (rk Try.prog call 173 (Code.snd (Code.fst (Code.snd (Code.at_ (Code.bd (Code.snd c10)) 3))))).1 (fun s h => S10_22 call r0 (s.rd 0) (s.rd 5) (s.rd 6) (s.rd 7) (s.rd 8) h) [] (finK Try.prog Try.f10.results.toList) (fun l s h => r0 l (s.rd 0) (s.rd 5) (s.rd 6) (s.rd 7) (s.rd 8) h) = fun s h => S10_28 call r0 (s.rd 0) (s.rd 5) (s.rd 6) (s.rd 7) (s.rd 8) (s.rd 146) h := Eq.trans (cond_t (by kernel_rfl) (TS10_27 call r0) rfl) (by funext s h; kernel_rfl)

noncomputable def S10_29 (call : CallF) (r0 : Nat → AV → AV → AV → AV → AV → Heap → Res) (t0 : AV) (t5 : AV) (t6 : AV) (t7 : AV) (t8 : AV) (h : Heap) : Res :=
  opt (lenStr t0) fun t145 =>
  opt (fastBin .lss t7 t145) fun t146 =>
  S10_28 call r0 t0 t5 t6 t7 t8 t146 h

theorem TS10_29 (call : CallF) (r0 : Nat → AV → AV → AV → AV → AV → Heap → Res) : (rk Try.prog call 173 (Code.snd (Code.at_ (Code.bd (Code.snd c10)) 3))).1 (finK Try.prog Try.f10.results.toList) [] (finK Try.prog Try.f10.results.toList) (fun l s h => r0 l (s.rd 0) (s.rd 5) (s.rd 6) (s.rd 7) (s.rd 8) h) = fun s h => S10_29 call r0 (s.rd 0) (s.rd 5) (s.rd 6) (s.rd 7) (s.rd 8) h := Eq.trans (seq_t (by kernel_rfl) (TS10_22 call r0) (seq_t (by kernel_rfl) (TS10_28 call r0) rfl)) (by funext s h; kernel_rfl)

noncomputable def S10_30L3_ (call : CallF) (r0 : Nat → AV → AV → AV → AV → AV → Heap → Res) (t0 : AV) (t5 : AV) (t6 : AV) (t7 : AV) (t8 : AV) (h : Heap) : Res :=
  S10_29 call r0 t0 t5 t6 t7 t8 h

theorem TS10_30L3_ (call : CallF) (r0 : Nat → AV → AV → AV → AV → AV → Heap → Res) : (rk Try.prog call 173 (Code.at_ (Code.bd (Code.snd c10)) 3)).1 (finK Try.prog Try.f10.results.toList) [] (finK Try.prog Try.f10.results.toList) (fun l s h => r0 l (s.rd 0) (s.rd 5) (s.rd 6) (s.rd 7) (s.rd 8) h) = fun s h => S10_30L3_ call r0 (s.rd 0) (s.rd 5) (s.rd 6) (s.rd 7) (s.rd 8) h := Eq.trans (seq_t (by kernel_rfl) (TS10_29 call r0) rfl) (by funext s h; kernel_rfl)

noncomputable def S10_0g (call : CallF) : Nat → Nat → AV → AV → AV → AV → AV → Heap → Res
  | 0 => fun _ _ _ _ _ _ _ => none
  | k + 1 => fun l => match l with
    | 0 => S10_7L0_ call (S10_0g call k)
    | 1 => S10_11L1_ call (S10_0g call k)
    | 2 => S10_21L2_ call (S10_0g call k)
    | 3 => S10_30L3_ call (S10_0g call k)
    | _ => fun _ _ _ _ _ _ => none

theorem TS10_0g (call : CallF) : jumpK (fun l kg' => match (rk Try.prog call 173 (Code.bd (Code.snd c10))).2 l with | some f => some (f (finK Try.prog Try.f10.results.toList) [] (finK Try.prog Try.f10.results.toList) kg') | none => none) (fun _ => stuckK) rounds = fun l s h => S10_0g call rounds l (s.rd 0) (s.rd 5) (s.rd 6) (s.rd 7) (s.rd 8) h :=
  jump_ind (J := fun m => fun l s h => S10_0g call m l (s.rd 0) (s.rd 5) (s.rd 6) (s.rd 7) (s.rd 8) h) rfl (fun m l => match l with
    | 0 => by rw [show findLabel (Code.bd (Code.snd c10)) 0 = some (Code.at_ (Code.bd (Code.snd c10)) 0) by kernel_rfl]; exact TS10_7L0_ call (S10_0g call m)
    | 1 => by rw [show findLabel (Code.bd (Code.snd c10)) 1 = some (Code.at_ (Code.bd (Code.snd c10)) 1) by kernel_rfl]; exact TS10_11L1_ call (S10_0g call m)
    | 2 => by rw [show findLabel (Code.bd (Code.snd c10)) 2 = some (Code.at_ (Code.bd (Code.snd c10)) 2) by kernel_rfl]; exact TS10_21L2_ call (S10_0g call m)
    | 3 => by rw [show findLabel (Code.bd (Code.snd c10)) 3 = some (Code.at_ (Code.bd (Code.snd c10)) 3) by kernel_rfl]; exact TS10_30L3_ call (S10_0g call m)
    | l + 4 => by rw [show findLabel (Code.bd (Code.snd c10)) (l + 4) = none by kernel_rfl]; rfl) rounds

noncomputable def S10_31 (call : CallF) (t0 : AV) (t5 : AV) (t6 : AV) (t7 : AV) (t8 : AV) (h : Heap) : Res :=
  S10_0g call rounds 3 t0 t5 t6 t7 t8 h

theorem TS10_31 (call : CallF) : (rk Try.prog call 173 (Code.snd (Code.snd (Code.snd (Code.snd (Code.snd (Code.snd (Code.snd (Code.snd (Code.bd (Code.snd c10))))))))))).1 (finK Try.prog Try.f10.results.toList) [] (finK Try.prog Try.f10.results.toList) (fun l s h => S10_0g call rounds l (s.rd 0) (s.rd 5) (s.rd 6) (s.rd 7) (s.rd 8) h) = fun s h => S10_31 call (s.rd 0) (s.rd 5) (s.rd 6) (s.rd 7) (s.rd 8) h := by funext s h; kernel_rfl

noncomputable def S10_32 (call : CallF) (t0 : AV) (t5 : AV) (t6 : AV) (t7 : AV) (t8 : AV) (t9 : AV) (t26 : AV) (h : Heap) : Res :=
  test t26
  (opt (fastBin .add t7 (.lit (.int .i64 1))) fun t42 =>
  S10_0g call rounds 0 t0 t5 t6 t42 t8 h)
  (opt (fastBin .eql t9 (.lit (.int .u8 59))) fun t45 =>
  test t45
  (S10_0g call rounds 1 t0 t5 t6 t7 t8 h)
  (opt (fastBin .eql t9 (.lit (.int .u8 40))) fun t48 =>
  test t48
  (opt (buildX [(.lit (.int .i64 0)), (.lit (.int .i64 0)), (.lit (.string ⟨⟨[]⟩⟩))] [(0, 1), (1, 1), (2, 1)] [(0, (.lit (.int .i64 1))), (1, t7), (2, (.lit (.string ⟨⟨[]⟩⟩)))]) fun t51 =>
  opt2 (bsliceX 3 (.agg [(.lit (.int .i64 0)), (.lit (.int .i64 0)), (.lit (.string ⟨⟨[]⟩⟩))]) 1 [(0, t51)] h) fun t52 h1 =>
  opt2 (appendX 3 32 t5 t52 h1) fun t53 h2 =>
  opt (fastBin .add t7 (.lit (.int .i64 1))) fun t55 =>
  S10_0g call rounds 0 t0 t53 t6 t55 t8 h2)
  (opt (fastBin .eql t9 (.lit (.int .u8 41))) fun t58 =>
  test t58
  (opt (buildX [(.lit (.int .i64 0)), (.lit (.int .i64 0)), (.lit (.string ⟨⟨[]⟩⟩))] [(0, 1), (1, 1), (2, 1)] [(0, (.lit (.int .i64 2))), (1, t7), (2, (.lit (.string ⟨⟨[]⟩⟩)))]) fun t61 =>
  opt2 (bsliceX 3 (.agg [(.lit (.int .i64 0)), (.lit (.int .i64 0)), (.lit (.string ⟨⟨[]⟩⟩))]) 1 [(0, t61)] h) fun t62 h3 =>
  opt2 (appendX 3 32 t5 t62 h3) fun t63 h4 =>
  opt (fastBin .add t7 (.lit (.int .i64 1))) fun t65 =>
  S10_0g call rounds 0 t0 t63 t6 t65 t8 h4)
  (opt (fastBin .eql t9 (.lit (.int .u8 34))) fun t68 =>
  test t68
  (opt (fastBin .add t7 (.lit (.int .i64 1))) fun t70 =>
  S10_0g call rounds 2 t0 t5 (.lit (.slice none 0 0)) t70 t8 h)
  (S10_31 call t0 t5 t6 t7 t8 h)))))

theorem TS10_32 (call : CallF) : (rk Try.prog call 173 (Code.snd (Code.bd (Code.snd (Code.fst (Code.snd (Code.snd (Code.snd (Code.snd (Code.snd (Code.snd (Code.snd (Code.bd (Code.snd c10)))))))))))))).1 (fun s h => S10_31 call (s.rd 0) (s.rd 5) (s.rd 6) (s.rd 7) (s.rd 8) h) [(0, (fun s h => S10_31 call (s.rd 0) (s.rd 5) (s.rd 6) (s.rd 7) (s.rd 8) h))] (finK Try.prog Try.f10.results.toList) (fun l s h => S10_0g call rounds l (s.rd 0) (s.rd 5) (s.rd 6) (s.rd 7) (s.rd 8) h) = fun s h => S10_32 call (s.rd 0) (s.rd 5) (s.rd 6) (s.rd 7) (s.rd 8) (s.rd 9) (s.rd 26) h := by funext s h; kernel_rfl

noncomputable def S10_33 (call : CallF) (t0 : AV) (t5 : AV) (t6 : AV) (t7 : AV) (t8 : AV) (t9 : AV) (h : Heap) : Res :=
  opt (fastBin .eql t9 (.lit (.int .u8 9))) fun t28 =>
  test t28
  (S10_32 call t0 t5 t6 t7 t8 t9 (.lit (.bool true)) h)
  (opt (fastBin .eql t9 (.lit (.int .u8 10))) fun t31 =>
  test t31
  (S10_32 call t0 t5 t6 t7 t8 t9 (.lit (.bool true)) h)
  (opt (fastBin .eql t9 (.lit (.int .u8 13))) fun t35 =>
  test t35
  (S10_32 call t0 t5 t6 t7 t8 t9 (.lit (.bool true)) h)
  (opt (fastBin .eql t9 (.lit (.int .u8 32))) fun t39 =>
  S10_32 call t0 t5 t6 t7 t8 t9 t39 h)))

theorem TS10_33 (call : CallF) : (rk Try.prog call 173 (Code.snd (Code.fst (Code.snd (Code.snd (Code.snd (Code.snd (Code.snd (Code.snd (Code.snd (Code.bd (Code.snd c10)))))))))))).1 (fun s h => S10_31 call (s.rd 0) (s.rd 5) (s.rd 6) (s.rd 7) (s.rd 8) h) [] (finK Try.prog Try.f10.results.toList) (fun l s h => S10_0g call rounds l (s.rd 0) (s.rd 5) (s.rd 6) (s.rd 7) (s.rd 8) h) = fun s h => S10_33 call (s.rd 0) (s.rd 5) (s.rd 6) (s.rd 7) (s.rd 8) (s.rd 9) h := Eq.trans (block_t (id := 0) (by kernel_rfl) (seq_t (by kernel_rfl) (TS10_32 call) rfl)) (by funext s h; kernel_rfl)

noncomputable def S10_34 (call : CallF) (t0 : AV) (t5 : AV) (t6 : AV) (t7 : AV) (t8 : AV) (h : Heap) : Res :=
  opt (fastIndex t0 t7) fun t25 =>
  S10_33 call t0 t5 t6 t7 t8 t25 h

theorem TS10_34 (call : CallF) : (rk Try.prog call 173 (Code.snd (Code.snd (Code.snd (Code.snd (Code.snd (Code.snd (Code.snd (Code.bd (Code.snd c10)))))))))).1 (finK Try.prog Try.f10.results.toList) [] (finK Try.prog Try.f10.results.toList) (fun l s h => S10_0g call rounds l (s.rd 0) (s.rd 5) (s.rd 6) (s.rd 7) (s.rd 8) h) = fun s h => S10_34 call (s.rd 0) (s.rd 5) (s.rd 6) (s.rd 7) (s.rd 8) h := Eq.trans (seq_t (by kernel_rfl) (TS10_31 call) (seq_t (by kernel_rfl) (TS10_33 call) rfl)) (by funext s h; kernel_rfl)

noncomputable def S10_35 (call : CallF) (t0 : AV) (t5 : AV) (t6 : AV) (t7 : AV) (h : Heap) : Res :=
  S10_34 call t0 t5 t6 t7 t7 h

theorem TS10_35 (call : CallF) : (rk Try.prog call 173 (Code.snd (Code.snd (Code.snd (Code.snd (Code.snd (Code.snd (Code.bd (Code.snd c10))))))))).1 (finK Try.prog Try.f10.results.toList) [] (finK Try.prog Try.f10.results.toList) (fun l s h => S10_0g call rounds l (s.rd 0) (s.rd 5) (s.rd 6) (s.rd 7) (s.rd 8) h) = fun s h => S10_35 call (s.rd 0) (s.rd 5) (s.rd 6) (s.rd 7) h := Eq.trans (seq_t (by kernel_rfl) (TS10_34 call) rfl) (by funext s h; kernel_rfl)

noncomputable def S10_36 (call : CallF) (t0 : AV) (t5 : AV) (t6 : AV) (t7 : AV) (h : Heap) : Res :=
  opt (lenStr t0) fun t19 =>
  opt (fastBin .eql t7 t19) fun t20 =>
  test t20
  (some ((.tup [t5, (.lit (.int .i64 0)), (.lit (.int .i64 0))]), h))
  (S10_35 call t0 t5 t6 t7 h)

theorem TS10_36 (call : CallF) : (rk Try.prog call 173 (Code.snd (Code.snd (Code.snd (Code.snd (Code.snd (Code.bd (Code.snd c10)))))))).1 (finK Try.prog Try.f10.results.toList) [] (finK Try.prog Try.f10.results.toList) (fun l s h => S10_0g call rounds l (s.rd 0) (s.rd 5) (s.rd 6) (s.rd 7) (s.rd 8) h) = fun s h => S10_36 call (s.rd 0) (s.rd 5) (s.rd 6) (s.rd 7) h := Eq.trans (seq_t (by kernel_rfl) (TS10_35 call) rfl) (by funext s h; kernel_rfl)

noncomputable def S10_37 (call : CallF) (t0 : AV) (t5 : AV) (t6 : AV) (t7 : AV) (h : Heap) : Res :=
  S10_36 call t0 t5 t6 t7 h

theorem TS10_37 (call : CallF) : (rk Try.prog call 173 (Code.snd (Code.snd (Code.snd (Code.snd (Code.bd (Code.snd c10))))))).1 (finK Try.prog Try.f10.results.toList) [] (finK Try.prog Try.f10.results.toList) (fun l s h => S10_0g call rounds l (s.rd 0) (s.rd 5) (s.rd 6) (s.rd 7) (s.rd 8) h) = fun s h => S10_37 call (s.rd 0) (s.rd 5) (s.rd 6) (s.rd 7) h := Eq.trans (seq_t (by kernel_rfl) (TS10_36 call) rfl) (by funext s h; kernel_rfl)

noncomputable def S10_38 (call : CallF) (t0 : AV) (t5 : AV) (t6 : AV) (h : Heap) : Res :=
  S10_37 call t0 t5 t6 (.lit (.int .i64 0)) h

theorem TS10_38 (call : CallF) : (rk Try.prog call 173 (Code.snd (Code.snd (Code.snd (Code.bd (Code.snd c10)))))).1 (finK Try.prog Try.f10.results.toList) [] (finK Try.prog Try.f10.results.toList) (fun l s h => S10_0g call rounds l (s.rd 0) (s.rd 5) (s.rd 6) (s.rd 7) (s.rd 8) h) = fun s h => S10_38 call (s.rd 0) (s.rd 5) (s.rd 6) h := Eq.trans (seq_t (by kernel_rfl) (TS10_37 call) rfl) (by funext s h; kernel_rfl)

noncomputable def S10_39 (call : CallF) (t0 : AV) (t5 : AV) (h : Heap) : Res :=
  S10_38 call t0 t5 (.lit (.slice none 0 0)) h

theorem TS10_39 (call : CallF) : (rk Try.prog call 173 (Code.snd (Code.snd (Code.bd (Code.snd c10))))).1 (finK Try.prog Try.f10.results.toList) [] (finK Try.prog Try.f10.results.toList) (fun l s h => S10_0g call rounds l (s.rd 0) (s.rd 5) (s.rd 6) (s.rd 7) (s.rd 8) h) = fun s h => S10_39 call (s.rd 0) (s.rd 5) h := Eq.trans (seq_t (by kernel_rfl) (TS10_38 call) rfl) (by funext s h; kernel_rfl)

noncomputable def S10_40 (call : CallF) (t0 : AV) (h : Heap) : Res :=
  S10_39 call t0 (.lit (.slice none 0 0)) h

theorem TS10_40 (call : CallF) : (rk Try.prog call 173 (Code.snd (Code.bd (Code.snd c10)))).1 (finK Try.prog Try.f10.results.toList) [] (finK Try.prog Try.f10.results.toList) (fun l s h => S10_0g call rounds l (s.rd 0) (s.rd 5) (s.rd 6) (s.rd 7) (s.rd 8) h) = fun s h => S10_40 call (s.rd 0) h := Eq.trans (seq_t (by kernel_rfl) (TS10_39 call) rfl) (by funext s h; kernel_rfl)

noncomputable def S10_41 (call : CallF) (t0 : AV) (h : Heap) : Res :=
  opt (lenStr t0) fun t15 =>
  opt (fastBin .gtr t15 (.lit (.int .i64 8192))) fun t16 =>
  test t16
  (some ((.tup [(.lit (.slice none 0 0)), (.lit (.int .i64 3)), (.lit (.int .i64 0))]), h))
  (S10_40 call t0 h)

theorem TS10_41 (call : CallF) : (rk Try.prog call 173 (Code.snd c10)).1 (finK Try.prog Try.f10.results.toList) [] (finK Try.prog Try.f10.results.toList) (fun _ => stuckK) = fun s h => S10_41 call (s.rd 0) h := Eq.trans (scope_t (by kernel_rfl) (TS10_0g call) (seq_t (by kernel_rfl) (TS10_40 call) rfl)) (by funext s h; kernel_rfl)

/-- hawser/lex.Split -/
noncomputable def F10 (call : CallF) (a0 : AV) (h : Heap) : Res :=
  S10_41 call a0 h

theorem TF10 (call : CallF) (a0 : AV) (h : Heap) : (rk Try.prog call 173 c10).1 (finK Try.prog Try.f10.results.toList) [] (finK Try.prog Try.f10.results.toList) (fun _ => stuckK) (argsTr gl 0 [a0]) h = F10 call a0 h := Eq.trans (congrFun (congrFun (seq_t (by kernel_rfl) (TS10_41 call) rfl) _) _) (by kernel_rfl)

noncomputable def N10 : FnF
  | call, [a0], h => F10 call a0 h
  | _, _, _ => none

theorem N10_ok : FnOk Try.prog gl 10 N10 := FnOk.of namesOk mixedOrders lowOk Try.func10 (by kernel_rfl) fun call args h r hF => by
  unfold N10 at hF
  split at hF
  · rw [← hF, ← TF10]; exact bodyK_at (by kernel_rfl) (by kernel_rfl) rfl rfl
  · cases hF

noncomputable def c20 : Code := codeOf Try.f20

noncomputable def S20_0 (call : CallF) (t4 : AV) (t5 : AV) (t33 : AV) (h : Heap) : Res :=
  test t33
  (opt (binX Try.prog .none .shl 3 t4 (.lit (.int .u64 4))) fun t35 =>
  opt (binX Try.prog .none .or 3 t35 t5) fun t37 =>
  opt (convI .u8 t37) fun t38 =>
  some ((.tup [t38, (.lit (.int .i64 3))]), h))
  (some ((.tup [(.lit (.int .u8 0)), (.lit (.int .i64 0))]), h))

theorem TS20_0 (call : CallF) : (rk Try.prog call 39 (Code.snd (Code.snd (Code.thn (Code.snd (Code.thn (Code.snd (Code.els (Code.snd (Code.els (Code.snd (Code.bd (Code.snd (Code.fst (Code.snd (Code.snd c20)))))))))))))))).1 ((rk Try.prog call 39 (Code.snd (Code.snd (Code.snd c20)))).1 (finK Try.prog Try.f20.results.toList) [] (finK Try.prog Try.f20.results.toList) (fun _ => stuckK)) [(0, ((rk Try.prog call 39 (Code.snd (Code.snd (Code.snd c20)))).1 (finK Try.prog Try.f20.results.toList) [] (finK Try.prog Try.f20.results.toList) (fun _ => stuckK)))] (finK Try.prog Try.f20.results.toList) (fun _ => stuckK) = fun s h => S20_0 call (s.rd 4) (s.rd 5) (s.rd 33) h := by funext s h; kernel_rfl

noncomputable def S20_1 (call : CallF) (t4 : AV) (t5 : AV) (h : Heap) : Res :=
  opt (fastBin .geq t4 (.lit (.int .i64 0))) fun t29 =>
  test t29
  (opt (fastBin .geq t5 (.lit (.int .i64 0))) fun t32 =>
  S20_0 call t4 t5 t32 h)
  (S20_0 call t4 t5 (.lit (.bool false)) h)

theorem TS20_1 (call : CallF) : (rk Try.prog call 39 (Code.snd (Code.thn (Code.snd (Code.thn (Code.snd (Code.els (Code.snd (Code.els (Code.snd (Code.bd (Code.snd (Code.fst (Code.snd (Code.snd c20))))))))))))))).1 ((rk Try.prog call 39 (Code.snd (Code.snd (Code.snd c20)))).1 (finK Try.prog Try.f20.results.toList) [] (finK Try.prog Try.f20.results.toList) (fun _ => stuckK)) [(0, ((rk Try.prog call 39 (Code.snd (Code.snd (Code.snd c20)))).1 (finK Try.prog Try.f20.results.toList) [] (finK Try.prog Try.f20.results.toList) (fun _ => stuckK)))] (finK Try.prog Try.f20.results.toList) (fun _ => stuckK) = fun s h => S20_1 call (s.rd 4) (s.rd 5) h := Eq.trans (seq_t (by kernel_rfl) (TS20_0 call) rfl) (by funext s h; kernel_rfl)

noncomputable def S20_2 (call : CallF) (t0 : AV) (h : Heap) : Res :=
  opt (fastIndex t0 (.lit (.int .i64 1))) fun t23 =>
  opt2 (call 21 [(.lit (.string ⟨⟨[48, 49, 50, 51, 52, 53, 54, 55, 56, 57, 97, 98, 99, 100, 101, 102]⟩⟩)), t23] h) fun t24 h1 =>
  eqH h1 h (
  opt (fastIndex t0 (.lit (.int .i64 2))) fun t26 =>
  opt2 (call 21 [(.lit (.string ⟨⟨[48, 49, 50, 51, 52, 53, 54, 55, 56, 57, 97, 98, 99, 100, 101, 102]⟩⟩)), t26] h) fun t27 h2 =>
  eqH h2 h (
  S20_1 call t24 t27 h))

theorem TS20_2 (call : CallF) : (rk Try.prog call 39 (Code.thn (Code.snd (Code.thn (Code.snd (Code.els (Code.snd (Code.els (Code.snd (Code.bd (Code.snd (Code.fst (Code.snd (Code.snd c20)))))))))))))).1 ((rk Try.prog call 39 (Code.snd (Code.snd (Code.snd c20)))).1 (finK Try.prog Try.f20.results.toList) [] (finK Try.prog Try.f20.results.toList) (fun _ => stuckK)) [(0, ((rk Try.prog call 39 (Code.snd (Code.snd (Code.snd c20)))).1 (finK Try.prog Try.f20.results.toList) [] (finK Try.prog Try.f20.results.toList) (fun _ => stuckK)))] (finK Try.prog Try.f20.results.toList) (fun _ => stuckK) = fun s h => S20_2 call (s.rd 0) h := Eq.trans (seq_t (by kernel_rfl) (TS20_1 call) rfl) (by funext s h; kernel_rfl)

noncomputable def S20_3 (call : CallF) (t0 : AV) (t21 : AV) (h : Heap) : Res :=
  test t21
  (S20_2 call t0 h)
  (some ((.tup [(.lit (.int .u8 0)), (.lit (.int .i64 0))]), h))

theorem TS20_3 (call : CallF) : (rk Try.prog call 39 (Code.snd (Code.thn (Code.snd (Code.els (Code.snd (Code.els (Code.snd (Code.bd (Code.snd (Code.fst (Code.snd (Code.snd c20))))))))))))).1 ((rk Try.prog call 39 (Code.snd (Code.snd (Code.snd c20)))).1 (finK Try.prog Try.f20.results.toList) [] (finK Try.prog Try.f20.results.toList) (fun _ => stuckK)) [(0, ((rk Try.prog call 39 (Code.snd (Code.snd (Code.snd c20)))).1 (finK Try.prog Try.f20.results.toList) [] (finK Try.prog Try.f20.results.toList) (fun _ => stuckK)))] (finK Try.prog Try.f20.results.toList) (fun _ => stuckK) = fun s h => S20_3 call (s.rd 0) (s.rd 21) h := Eq.trans (cond_t (by kernel_rfl) (TS20_2 call) rfl) (by funext s h; kernel_rfl)

noncomputable def S20_4 (call : CallF) (t0 : AV) (h : Heap) : Res :=
  opt (lenStr t0) fun t20 =>
  opt (fastBin .gtr t20 (.lit (.int .i64 2))) fun t21 =>
  S20_3 call t0 t21 h

theorem TS20_4 (call : CallF) : (rk Try.prog call 39 (Code.thn (Code.snd (Code.els (Code.snd (Code.els (Code.snd (Code.bd (Code.snd (Code.fst (Code.snd (Code.snd c20)))))))))))).1 ((rk Try.prog call 39 (Code.snd (Code.snd (Code.snd c20)))).1 (finK Try.prog Try.f20.results.toList) [] (finK Try.prog Try.f20.results.toList) (fun _ => stuckK)) [(0, ((rk Try.prog call 39 (Code.snd (Code.snd (Code.snd c20)))).1 (finK Try.prog Try.f20.results.toList) [] (finK Try.prog Try.f20.results.toList) (fun _ => stuckK)))] (finK Try.prog Try.f20.results.toList) (fun _ => stuckK) = fun s h => S20_4 call (s.rd 0) h := Eq.trans (seq_t (by kernel_rfl) (TS20_3 call) rfl) (by funext s h; kernel_rfl)

noncomputable def S20_5 (call : CallF) (t0 : AV) (t17 : AV) (h : Heap) : Res :=
  test t17
  (S20_4 call t0 h)
  (some ((.tup [(.lit (.int .u8 0)), (.lit (.int .i64 0))]), h))

theorem TS20_5 (call : CallF) : (rk Try.prog call 39 (Code.snd (Code.els (Code.snd (Code.els (Code.snd (Code.bd (Code.snd (Code.fst (Code.snd (Code.snd c20))))))))))).1 ((rk Try.prog call 39 (Code.snd (Code.snd (Code.snd c20)))).1 (finK Try.prog Try.f20.results.toList) [] (finK Try.prog Try.f20.results.toList) (fun _ => stuckK)) [(0, ((rk Try.prog call 39 (Code.snd (Code.snd (Code.snd c20)))).1 (finK Try.prog Try.f20.results.toList) [] (finK Try.prog Try.f20.results.toList) (fun _ => stuckK)))] (finK Try.prog Try.f20.results.toList) (fun _ => stuckK) = fun s h => S20_5 call (s.rd 0) (s.rd 17) h := Eq.trans (cond_t (by kernel_rfl) (TS20_4 call) rfl) (by funext s h; kernel_rfl)

noncomputable def S20_6 (call : CallF) (t0 : AV) (t9 : AV) (h : Heap) : Res :=
  opt (fastBin .eql t9 (.lit (.int .u8 120))) fun t18 =>
  S20_5 call t0 t18 h

theorem TS20_6 (call : CallF) : (rk Try.prog call 39 (Code.els (Code.snd (Code.els (Code.snd (Code.bd (Code.snd (Code.fst (Code.snd (Code.snd c20)))))))))).1 ((rk Try.prog call 39 (Code.snd (Code.snd (Code.snd c20)))).1 (finK Try.prog Try.f20.results.toList) [] (finK Try.prog Try.f20.results.toList) (fun _ => stuckK)) [(0, ((rk Try.prog call 39 (Code.snd (Code.snd (Code.snd c20)))).1 (finK Try.prog Try.f20.results.toList) [] (finK Try.prog Try.f20.results.toList) (fun _ => stuckK)))] (finK Try.prog Try.f20.results.toList) (fun _ => stuckK) = fun s h => S20_6 call (s.rd 0) (s.rd 9) h := Eq.trans (seq_t (by kernel_rfl) (TS20_5 call) rfl) (by funext s h; kernel_rfl)

noncomputable def S20_7 (call : CallF) (t0 : AV) (t9 : AV) (t15 : AV) (h : Heap) : Res :=
  test t15
  (some ((.tup [(.lit (.int .u8 10)), (.lit (.int .i64 1))]), h))
  (S20_6 call t0 t9 h)

theorem TS20_7 (call : CallF) : (rk Try.prog call 39 (Code.snd (Code.els (Code.snd (Code.bd (Code.snd (Code.fst (Code.snd (Code.snd c20))))))))).1 ((rk Try.prog call 39 (Code.snd (Code.snd (Code.snd c20)))).1 (finK Try.prog Try.f20.results.toList) [] (finK Try.prog Try.f20.results.toList) (fun _ => stuckK)) [(0, ((rk Try.prog call 39 (Code.snd (Code.snd (Code.snd c20)))).1 (finK Try.prog Try.f20.results.toList) [] (finK Try.prog Try.f20.results.toList) (fun _ => stuckK)))] (finK Try.prog Try.f20.results.toList) (fun _ => stuckK) = fun s h => S20_7 call (s.rd 0) (s.rd 9) (s.rd 15) h := Eq.trans (cond_t (by kernel_rfl) rfl (TS20_6 call)) (by funext s h; kernel_rfl)

noncomputable def S20_8 (call : CallF) (t0 : AV) (t9 : AV) (h : Heap) : Res :=
  opt (fastBin .eql t9 (.lit (.int .u8 110))) fun t16 =>
  S20_7 call t0 t9 t16 h

theorem TS20_8 (call : CallF) : (rk Try.prog call 39 (Code.els (Code.snd (Code.bd (Code.snd (Code.fst (Code.snd (Code.snd c20)))))))).1 ((rk Try.prog call 39 (Code.snd (Code.snd (Code.snd c20)))).1 (finK Try.prog Try.f20.results.toList) [] (finK Try.prog Try.f20.results.toList) (fun _ => stuckK)) [(0, ((rk Try.prog call 39 (Code.snd (Code.snd (Code.snd c20)))).1 (finK Try.prog Try.f20.results.toList) [] (finK Try.prog Try.f20.results.toList) (fun _ => stuckK)))] (finK Try.prog Try.f20.results.toList) (fun _ => stuckK) = fun s h => S20_8 call (s.rd 0) (s.rd 9) h := Eq.trans (seq_t (by kernel_rfl) (TS20_7 call) rfl) (by funext s h; kernel_rfl)

noncomputable def S20_9 (call : CallF) (t0 : AV) (t9 : AV) (t10 : AV) (h : Heap) : Res :=
  test t10
  (opt (fastIndex t0 (.lit (.int .i64 0))) fun t14 =>
  some ((.tup [t14, (.lit (.int .i64 1))]), h))
  (S20_8 call t0 t9 h)

theorem TS20_9 (call : CallF) : (rk Try.prog call 39 (Code.snd (Code.bd (Code.snd (Code.fst (Code.snd (Code.snd c20))))))).1 ((rk Try.prog call 39 (Code.snd (Code.snd (Code.snd c20)))).1 (finK Try.prog Try.f20.results.toList) [] (finK Try.prog Try.f20.results.toList) (fun _ => stuckK)) [(0, ((rk Try.prog call 39 (Code.snd (Code.snd (Code.snd c20)))).1 (finK Try.prog Try.f20.results.toList) [] (finK Try.prog Try.f20.results.toList) (fun _ => stuckK)))] (finK Try.prog Try.f20.results.toList) (fun _ => stuckK) = fun s h => S20_9 call (s.rd 0) (s.rd 9) (s.rd 10) h := Eq.trans (cond_t (by kernel_rfl) rfl (TS20_8 call)) (by funext s h; kernel_rfl)

noncomputable def S20_10 (call : CallF) (t0 : AV) (t9 : AV) (h : Heap) : Res :=
  opt (fastBin .eql t9 (.lit (.int .u8 34))) fun t11 =>
  test t11
  (S20_9 call t0 t9 t11 h)
  (opt (fastBin .eql t9 (.lit (.int .u8 92))) fun t12 =>
  S20_9 call t0 t9 t12 h)

theorem TS20_10 (call : CallF) : (rk Try.prog call 39 (Code.snd (Code.fst (Code.snd (Code.snd c20))))).1 ((rk Try.prog call 39 (Code.snd (Code.snd (Code.snd c20)))).1 (finK Try.prog Try.f20.results.toList) [] (finK Try.prog Try.f20.results.toList) (fun _ => stuckK)) [] (finK Try.prog Try.f20.results.toList) (fun _ => stuckK) = fun s h => S20_10 call (s.rd 0) (s.rd 9) h := Eq.trans (block_t (id := 0) (by kernel_rfl) (seq_t (by kernel_rfl) (TS20_9 call) rfl)) (by funext s h; kernel_rfl)

noncomputable def S20_11 (call : CallF) (t0 : AV) (h : Heap) : Res :=
  opt (fastIndex t0 (.lit (.int .i64 0))) fun t9 =>
  S20_10 call t0 t9 h

theorem TS20_11 (call : CallF) : (rk Try.prog call 39 (Code.snd (Code.snd c20))).1 (finK Try.prog Try.f20.results.toList) [] (finK Try.prog Try.f20.results.toList) (fun _ => stuckK) = fun s h => S20_11 call (s.rd 0) h := Eq.trans (seq_t (by kernel_rfl) rfl (seq_t (by kernel_rfl) (TS20_10 call) rfl)) (by funext s h; kernel_rfl)

noncomputable def S20_12 (call : CallF) (t0 : AV) (h : Heap) : Res :=
  opt (fastBin .eql t0 (.lit (.string ⟨⟨[]⟩⟩))) fun t7 =>
  test t7
  (some ((.tup [(.lit (.int .u8 0)), (.lit (.int .i64 0))]), h))
  (S20_11 call t0 h)

theorem TS20_12 (call : CallF) : (rk Try.prog call 39 (Code.snd c20)).1 (finK Try.prog Try.f20.results.toList) [] (finK Try.prog Try.f20.results.toList) (fun _ => stuckK) = fun s h => S20_12 call (s.rd 0) h := Eq.trans (seq_t (by kernel_rfl) (TS20_11 call) rfl) (by funext s h; kernel_rfl)

/-- hawser/lex.escape -/
noncomputable def F20 (call : CallF) (a0 : AV) (h : Heap) : Res :=
  S20_12 call a0 h

theorem TF20 (call : CallF) (a0 : AV) (h : Heap) : (rk Try.prog call 39 c20).1 (finK Try.prog Try.f20.results.toList) [] (finK Try.prog Try.f20.results.toList) (fun _ => stuckK) (argsTr gl 0 [a0]) h = F20 call a0 h := Eq.trans (congrFun (congrFun (seq_t (by kernel_rfl) (TS20_12 call) rfl) _) _) (by kernel_rfl)

noncomputable def N20 : FnF
  | call, [a0], h => F20 call a0 h
  | _, _, _ => none

theorem N20_ok : FnOk Try.prog gl 20 N20 := FnOk.of namesOk mixedOrders lowOk Try.func20 (by kernel_rfl) fun call args h r hF => by
  unfold N20 at hF
  split at hF
  · rw [← hF, ← TF20]; exact bodyK_at (by kernel_rfl) (by kernel_rfl) rfl rfl
  · cases hF

noncomputable def c21 : Code := codeOf Try.f21

/-- strings.IndexByte -/
noncomputable def F21 (call : CallF) (a0 : AV) (a1 : AV) (h : Heap) : Res :=
  opt2 (call 28 [a0, a1] h) fun t7 h1 =>
  some (t7, h1)

theorem TF21 (call : CallF) (a0 : AV) (a1 : AV) (h : Heap) : (rk Try.prog call 8 c21).1 (finK Try.prog Try.f21.results.toList) [] (finK Try.prog Try.f21.results.toList) (fun _ => stuckK) (argsTr gl 0 [a0, a1]) h = F21 call a0 a1 h := by kernel_rfl

noncomputable def N21 : FnF
  | call, [a0, a1], h => F21 call a0 a1 h
  | _, _, _ => none

theorem N21_ok : FnOk Try.prog gl 21 N21 := FnOk.of namesOk mixedOrders lowOk Try.func21 (by kernel_rfl) fun call args h r hF => by
  unfold N21 at hF
  split at hF
  · rw [← hF, ← TF21]; exact bodyK_at (by kernel_rfl) (by kernel_rfl) rfl rfl
  · cases hF

noncomputable def c28 : Code := codeOf Try.f28

/-- internal/stringslite.IndexByte -/
noncomputable def F28 (call : CallF) (a0 : AV) (a1 : AV) (h : Heap) : Res :=
  opt (litCall Try.prog [a0, a1] 34) fun t7 =>
  some (t7, h)

theorem TF28 (call : CallF) (a0 : AV) (a1 : AV) (h : Heap) : (rk Try.prog call 8 c28).1 (finK Try.prog Try.f28.results.toList) [] (finK Try.prog Try.f28.results.toList) (fun _ => stuckK) (argsTr gl 0 [a0, a1]) h = F28 call a0 a1 h := by kernel_rfl

noncomputable def N28 : FnF
  | call, [a0, a1], h => F28 call a0 a1 h
  | _, _, _ => none

theorem N28_ok : FnOk Try.prog gl 28 N28 := FnOk.of namesOk mixedOrders lowOk Try.func28 (by kernel_rfl) fun call args h r hF => by
  unfold N28 at hF
  split at hF
  · rw [← hF, ← TF28]; exact bodyK_at (by kernel_rfl) (by kernel_rfl) rfl rfl
  · cases hF

end Go.Proofs.Ytcajleckiegffaa
