import Derived.Test.YtcajleckiegffaaGTree1
set_option linter.unusedSectionVars false
namespace Go.Proofs.Ytcajleckiegffaa
open Go.Am
set_option maxRecDepth 100000
set_option linter.unusedSimpArgs false
set_option linter.unusedVariables false
noncomputable def c6 : Code := codeOf Try.f6

/-- hawser/hawserlaw4.TreeReads -/
noncomputable def F6 (call : CallF) (a0 : AV) (h : Heap) : Res :=
  opt2 (call 12 [a0] h) fun t11 h1 =>
  opt (extractX t11 0) fun t12 =>
  opt (extractX t11 1) fun t13 =>
  opt (extractX t11 2) fun t14 =>
  opt2 (box (.agg [(.lit (.int .i64 0)), (.lit (.int .i64 0)), (.lit (.string ⟨⟨[]⟩⟩)), (.lit (.slice none 0 0))]) h1) fun t3 h2 =>
  optH (storeX 4 t3 t12 h2) fun h3 =>
  opt2 (call 15 [a0] h3) fun t17 h4 =>
  opt (extractX t17 0) fun t18 =>
  opt (extractX t17 1) fun t19 =>
  opt (extractX t17 2) fun t20 =>
  opt2 (box (.agg [(.lit (.int .i64 0)), (.lit (.int .i64 0)), (.lit (.string ⟨⟨[]⟩⟩)), (.lit (.slice none 0 0))]) h4) fun t6 h5 =>
  optH (storeX 4 t6 t18 h5) fun h6 =>
  opt (loadX (some 4) t3 h6) fun t21 =>
  eqH h6 h6 (
  opt (loadX (some 4) t6 h6) fun t22 =>
  eqH h6 h6 (
  opt2 (call 16 [t21, t22, (.lit (.bool true))] h6) fun t23 h7 =>
  eqH h7 h6 (
  test t23
  (opt (fastBin .eql t13 t19) fun t27 =>
  test t27
  (opt (fastBin .eql t14 t20) fun t32 =>
  test t32
  (opt (loadX (some 4) t3 h6) fun t35 =>
  eqH h6 h6 (
  opt2 (call 13 [t35] h6) fun t36 h8 =>
  eqH h8 h6 (
  opt (loadX (some 4) t6 h6) fun t37 =>
  eqH h6 h6 (
  opt2 (call 17 [t37] h6) fun t38 h9 =>
  eqH h9 h6 (
  opt (fastBin .eql t36 t38) fun t39 =>
  test t39
  (opt2 (call 14 [] h6) fun t42 h10 =>
  eqH h10 h6 (
  some (t42, h6)))
  (some ((.lit (.bool false)), h6)))))))
  (some ((.lit (.bool false)), h6)))
  (some ((.lit (.bool false)), h6)))
  (some ((.lit (.bool false)), h6)))))

theorem TF6 (call : CallF) (a0 : AV) (h : Heap) : (rk Try.prog call 44 c6).1 (finK Try.prog Try.f6.results.toList) [] (finK Try.prog Try.f6.results.toList) (fun _ => stuckK) (argsTr gl 0 [a0]) h = F6 call a0 h := by kernel_rfl

noncomputable def N6 : FnF
  | call, [a0], h => F6 call a0 h
  | _, _, _ => none

theorem N6_ok : FnOk Try.prog gl 6 N6 := FnOk.of namesOk mixedOrders lowOk Try.func6 (by kernel_rfl) fun call args h r hF => by
  unfold N6 at hF
  split at hF
  · rw [← hF, ← TF6]; exact bodyK_at (by kernel_rfl) (by kernel_rfl) rfl rfl
  · cases hF

noncomputable def c7 : Code := codeOf Try.f7

noncomputable def S7_0 (call : CallF) (t0 : AV) (t1 : AV) (h : Heap) : Res :=
  opt2 (box (.lit (.int .i64 0)) h) fun t5 h1 =>
  optH (storeX 1 t5 (.lit (.int .i64 0)) h1) fun h2 =>
  opt2 (call 18 [t0, t1, t5, (.lit (.int .i64 30))] h2) fun t18 h3 =>
  opt2 (box (.agg [(.lit (.int .i64 0)), (.lit (.int .i64 0)), (.lit (.string ⟨⟨[]⟩⟩)), (.lit (.slice none 0 0))]) h3) fun t6 h4 =>
  optH (storeX 4 t6 t18 h4) fun h5 =>
  opt (loadX (some 4) t6 h5) fun t19 =>
  opt2 (call 19 [t19] h5) fun t20 h6 =>
  opt2 (call 13 [t20] h6) fun t21 h7 =>
  opt (lenStr t21) fun t23 =>
  opt (fastBin .gtr t23 (.lit (.int .i64 8192))) fun t24 =>
  test t24
  (opt2 (call 14 [] h7) fun t25 h8 =>
  some (t25, h8))
  (opt2 (call 12 [t21] h7) fun t28 h9 =>
  opt (extractX t28 0) fun t29 =>
  opt (extractX t28 1) fun t30 =>
  opt (extractX t28 2) fun t31 =>
  opt2 (box (.agg [(.lit (.int .i64 0)), (.lit (.int .i64 0)), (.lit (.string ⟨⟨[]⟩⟩)), (.lit (.slice none 0 0))]) h9) fun t8 h10 =>
  optH (storeX 4 t8 t29 h10) fun h11 =>
  opt (fastBin .eql t30 (.lit (.int .i64 0))) fun t33 =>
  test t33
  (opt (loadX (some 4) t8 h11) fun t35 =>
  opt (loadX (some 4) t6 h11) fun t36 =>
  opt2 (call 16 [t35, t36, (.lit (.bool false))] h11) fun t37 h12 =>
  test t37
  (opt (loadX (some 4) t8 h12) fun t40 =>
  opt2 (call 13 [t40] h12) fun t41 h13 =>
  opt (fastBin .eql t41 t21) fun t43 =>
  test t43
  (opt2 (call 14 [] h13) fun t46 h14 =>
  some (t46, h14))
  (some ((.lit (.bool false)), h13)))
  (some ((.lit (.bool false)), h12)))
  (some ((.lit (.bool false)), h11)))

theorem TS7_0 (call : CallF) : (rk Try.prog call 48 (Code.snd (Code.snd c7))).1 (finK Try.prog Try.f7.results.toList) [] (finK Try.prog Try.f7.results.toList) (fun _ => stuckK) = fun s h => S7_0 call (s.rd 0) (s.rd 1) h := by funext s h; kernel_rfl

noncomputable def S7_1 (call : CallF) (t0 : AV) (t1 : AV) (h : Heap) : Res :=
  opt (lenS t0) fun t12 =>
  opt (fastBin .gtr t12 (.lit (.int .i64 60))) fun t13 =>
  test t13
  (opt (cutX 1 t0 none (some (.lit (.int .i64 60))) none h) fun t15 =>
  S7_0 call t15 t1 h)
  (S7_0 call t0 t1 h)

theorem TS7_1 (call : CallF) : (rk Try.prog call 48 (Code.snd c7)).1 (finK Try.prog Try.f7.results.toList) [] (finK Try.prog Try.f7.results.toList) (fun _ => stuckK) = fun s h => S7_1 call (s.rd 0) (s.rd 1) h := Eq.trans (seq_t (by kernel_rfl) (TS7_0 call) rfl) (by funext s h; kernel_rfl)

/-- hawser/hawserlaw4.TreeBack -/
noncomputable def F7 (call : CallF) (a0 : AV) (a1 : AV) (h : Heap) : Res :=
  S7_1 call a0 a1 h

theorem TF7 (call : CallF) (a0 : AV) (a1 : AV) (h : Heap) : (rk Try.prog call 48 c7).1 (finK Try.prog Try.f7.results.toList) [] (finK Try.prog Try.f7.results.toList) (fun _ => stuckK) (argsTr gl 0 [a0, a1]) h = F7 call a0 a1 h := Eq.trans (congrFun (congrFun (seq_t (by kernel_rfl) (TS7_1 call) rfl) _) _) (by kernel_rfl)

noncomputable def N7 : FnF
  | call, [a0, a1], h => F7 call a0 a1 h
  | _, _, _ => none

theorem N7_ok : FnOk Try.prog gl 7 N7 := FnOk.of namesOk mixedOrders lowOk Try.func7 (by kernel_rfl) fun call args h r hF => by
  unfold N7 at hF
  split at hF
  · rw [← hF, ← TF7]; exact bodyK_at (by kernel_rfl) (by kernel_rfl) rfl rfl
  · cases hF

noncomputable def c15 : Code := codeOf Try.f15

noncomputable def S15_0 (call : CallF) (t0 : AV) (t2 : AV) (t5 : AV) (t8 : AV) (h : Heap) : Res :=
  opt (fastBin .gtr t8 (.lit (.int .i64 0))) fun t85 =>
  test t85
  (opt (buildX [(.lit (.int .i64 0)), (.lit (.int .i64 0)), (.lit (.string ⟨⟨[]⟩⟩)), (.lit (.slice none 0 0))] [(0, 1), (1, 1), (2, 1), (3, 1)] []) fun t86 =>
  opt (lenStr t0) fun t88 =>
  optH (storeX 4 t2 t86 h) fun h1 =>
  opt (loadX (some 4) t2 h1) fun res =>
  some ((.tup [res, (.lit (.int .i64 10)), t88]), h1))
  (opt2 (call 26 [t5] h) fun t91 h2 =>
  opt (extractX t91 0) fun t92 =>
  opt (extractX t91 1) fun t93 =>
  opt2 (box (.agg [(.lit (.int .i64 0)), (.lit (.int .i64 0)), (.lit (.string ⟨⟨[]⟩⟩)), (.lit (.slice none 0 0))]) h2) fun t10 h3 =>
  optH (storeX 4 t10 t92 h3) fun h4 =>
  opt (loadX (some 4) t10 h4) fun t94 =>
  optH (storeX 4 t2 t94 h4) fun h5 =>
  opt (loadX (some 4) t2 h5) fun res_1 =>
  some ((.tup [res_1, (.lit (.int .i64 0)), (.lit (.int .i64 0))]), h5))

theorem TS15_0 (call : CallF) : (rk Try.prog call 95 (Code.snd (Code.snd (Code.snd (Code.snd (Code.snd (Code.snd c15))))))).1 (finK Try.prog Try.f15.results.toList) [] (finK Try.prog Try.f15.results.toList) (fun _ => stuckK) = fun s h => S15_0 call (s.rd 0) (s.rd 2) (s.rd 5) (s.rd 8) h := by funext s h; kernel_rfl

noncomputable def S15_2 (call : CallF) (r1 : AV → AV → AV → AV → AV → Heap → Res) (t0 : AV) (t2 : AV) (t5 : AV) (t8 : AV) (t9 : AV) (h : Heap) : Res :=
  opt (fastBin .add t9 (.lit (.int .i64 1))) fun t34 =>
  r1 t0 t2 t5 t8 t34 h

theorem TS15_2 (call : CallF) (r1 : AV → AV → AV → AV → AV → Heap → Res) : (rk Try.prog call 95 (Code.snd (Code.snd (Code.bd (Code.bd (Code.snd (Code.fst (Code.snd (Code.snd (Code.snd (Code.snd (Code.snd c15)))))))))))).1 (fun s h => r1 (s.rd 0) (s.rd 2) (s.rd 5) (s.rd 8) (s.rd 9) h) [(0, (fun s h => S15_0 call (s.rd 0) (s.rd 2) (s.rd 5) (s.rd 8) h))] (finK Try.prog Try.f15.results.toList) (fun _ => stuckK) = fun s h => S15_2 call r1 (s.rd 0) (s.rd 2) (s.rd 5) (s.rd 8) (s.rd 9) h := by funext s h; kernel_rfl

noncomputable def S15_3 (call : CallF) (r1 : AV → AV → AV → AV → AV → Heap → Res) (t0 : AV) (t2 : AV) (t5 : AV) (t8 : AV) (t9 : AV) (h : Heap) : Res :=
  opt (indexAddrS 3 t5 t9 h) fun t57 =>
  opt (fieldAddrX 0 t57) fun t58 =>
  opt (loadX none t58 h) fun t59 =>
  opt (fastBin .eql t59 (.lit (.int .i64 1))) fun t61 =>
  test t61
  (opt (fastBin .add t8 (.lit (.int .i64 1))) fun t63 =>
  opt (fastBin .gtr t63 (.lit (.int .i64 40))) fun t65 =>
  test t65
  (opt (buildX [(.lit (.int .i64 0)), (.lit (.int .i64 0)), (.lit (.string ⟨⟨[]⟩⟩)), (.lit (.slice none 0 0))] [(0, 1), (1, 1), (2, 1), (3, 1)] []) fun t66 =>
  opt (indexAddrS 3 t5 t9 h) fun t69 =>
  eqH h h (
  opt (fieldAddrX 1 t69) fun t70 =>
  opt (loadX none t70 h) fun t71 =>
  eqH h h (
  optH (storeX 4 t2 t66 h) fun h1 =>
  opt (loadX none t70 h1) fun t71_1 =>
  eqK t71_1 t71 (eqH h1 h1 (
  opt (indexAddrS 3 t5 t9 h1) fun t69_1 =>
  eqK t69_1 t69 (eqH h1 h1 (
  opt (loadX (some 4) t2 h1) fun res =>
  some ((.tup [res, (.lit (.int .i64 14)), t71]), h1))))))))
  (S15_2 call r1 t0 t2 t5 t63 t9 h))
  (opt (fastBin .eql t59 (.lit (.int .i64 2))) fun t73 =>
  test t73
  (opt (fastBin .eql t8 (.lit (.int .i64 0))) fun t75 =>
  test t75
  (opt (buildX [(.lit (.int .i64 0)), (.lit (.int .i64 0)), (.lit (.string ⟨⟨[]⟩⟩)), (.lit (.slice none 0 0))] [(0, 1), (1, 1), (2, 1), (3, 1)] []) fun t76 =>
  opt (indexAddrS 3 t5 t9 h) fun t79 =>
  eqH h h (
  opt (fieldAddrX 1 t79) fun t80 =>
  opt (loadX none t80 h) fun t81 =>
  eqH h h (
  optH (storeX 4 t2 t76 h) fun h2 =>
  opt (loadX none t80 h2) fun t81_1 =>
  eqK t81_1 t81 (eqH h2 h2 (
  opt (indexAddrS 3 t5 t9 h2) fun t79_1 =>
  eqK t79_1 t79 (eqH h2 h2 (
  opt (loadX (some 4) t2 h2) fun res_1 =>
  some ((.tup [res_1, (.lit (.int .i64 12)), t81]), h2))))))))
  (opt (fastBin .sub t8 (.lit (.int .i64 1))) fun t83 =>
  S15_2 call r1 t0 t2 t5 t83 t9 h))
  (S15_2 call r1 t0 t2 t5 t8 t9 h))

theorem TS15_3 (call : CallF) (r1 : AV → AV → AV → AV → AV → Heap → Res) : (rk Try.prog call 95 (Code.snd (Code.bd (Code.fst (Code.snd (Code.bd (Code.bd (Code.snd (Code.fst (Code.snd (Code.snd (Code.snd (Code.snd (Code.snd c15)))))))))))))).1 (fun s h => S15_2 call r1 (s.rd 0) (s.rd 2) (s.rd 5) (s.rd 8) (s.rd 9) h) [(1, (fun s h => S15_2 call r1 (s.rd 0) (s.rd 2) (s.rd 5) (s.rd 8) (s.rd 9) h)), (0, (fun s h => S15_0 call (s.rd 0) (s.rd 2) (s.rd 5) (s.rd 8) h))] (finK Try.prog Try.f15.results.toList) (fun _ => stuckK) = fun s h => S15_3 call r1 (s.rd 0) (s.rd 2) (s.rd 5) (s.rd 8) (s.rd 9) h := by funext s h; kernel_rfl

noncomputable def S15_4 (call : CallF) (r1 : AV → AV → AV → AV → AV → Heap → Res) (t0 : AV) (t2 : AV) (t5 : AV) (t8 : AV) (t9 : AV) (t48 : AV) (h : Heap) : Res :=
  test t48
  (opt (buildX [(.lit (.int .i64 0)), (.lit (.int .i64 0)), (.lit (.string ⟨⟨[]⟩⟩)), (.lit (.slice none 0 0))] [(0, 1), (1, 1), (2, 1), (3, 1)] []) fun t49 =>
  opt (indexAddrS 3 t5 t9 h) fun t52 =>
  eqH h h (
  opt (fieldAddrX 1 t52) fun t53 =>
  opt (loadX none t53 h) fun t54 =>
  eqH h h (
  optH (storeX 4 t2 t49 h) fun h1 =>
  opt (loadX none t53 h1) fun t54_1 =>
  eqK t54_1 t54 (eqH h1 h1 (
  opt (indexAddrS 3 t5 t9 h1) fun t52_1 =>
  eqK t52_1 t52 (eqH h1 h1 (
  opt (loadX (some 4) t2 h1) fun res =>
  some ((.tup [res, (.lit (.int .i64 11)), t54]), h1))))))))
  (S15_3 call r1 t0 t2 t5 t8 t9 h)

theorem TS15_4 (call : CallF) (r1 : AV → AV → AV → AV → AV → Heap → Res) : (rk Try.prog call 95 (Code.snd (Code.fst (Code.bd (Code.fst (Code.snd (Code.bd (Code.bd (Code.snd (Code.fst (Code.snd (Code.snd (Code.snd (Code.snd (Code.snd c15))))))))))))))).1 (fun s h => S15_3 call r1 (s.rd 0) (s.rd 2) (s.rd 5) (s.rd 8) (s.rd 9) h) [(1, (fun s h => S15_2 call r1 (s.rd 0) (s.rd 2) (s.rd 5) (s.rd 8) (s.rd 9) h)), (0, (fun s h => S15_0 call (s.rd 0) (s.rd 2) (s.rd 5) (s.rd 8) h))] (finK Try.prog Try.f15.results.toList) (fun _ => stuckK) = fun s h => S15_4 call r1 (s.rd 0) (s.rd 2) (s.rd 5) (s.rd 8) (s.rd 9) (s.rd 48) h := by funext s h; kernel_rfl

noncomputable def S15_5 (call : CallF) (r1 : AV → AV → AV → AV → AV → Heap → Res) (t0 : AV) (t2 : AV) (t5 : AV) (t8 : AV) (t9 : AV) (h : Heap) : Res :=
  opt (fastBin .gtr t9 (.lit (.int .i64 0))) fun t36 =>
  test t36
  (opt (fastBin .eql t8 (.lit (.int .i64 0))) fun t39 =>
  test t39
  (opt (indexAddrS 3 t5 t9 h) fun t44 =>
  opt (fieldAddrX 0 t44) fun t45 =>
  opt (loadX none t45 h) fun t46 =>
  opt (fastBin .neq t46 (.lit (.int .i64 2))) fun t47 =>
  S15_4 call r1 t0 t2 t5 t8 t9 t47 h)
  (S15_4 call r1 t0 t2 t5 t8 t9 (.lit (.bool false)) h))
  (S15_4 call r1 t0 t2 t5 t8 t9 (.lit (.bool false)) h)

theorem TS15_5 (call : CallF) (r1 : AV → AV → AV → AV → AV → Heap → Res) : (rk Try.prog call 95 (Code.snd (Code.bd (Code.bd (Code.snd (Code.fst (Code.snd (Code.snd (Code.snd (Code.snd (Code.snd c15))))))))))).1 (fun s h => r1 (s.rd 0) (s.rd 2) (s.rd 5) (s.rd 8) (s.rd 9) h) [(0, (fun s h => S15_0 call (s.rd 0) (s.rd 2) (s.rd 5) (s.rd 8) h))] (finK Try.prog Try.f15.results.toList) (fun _ => stuckK) = fun s h => S15_5 call r1 (s.rd 0) (s.rd 2) (s.rd 5) (s.rd 8) (s.rd 9) h := Eq.trans (seq_t (by kernel_rfl) (TS15_2 call r1) (block_t (id := 1) (by kernel_rfl) (seq_t (by kernel_rfl) (TS15_3 call r1) (seq_t (by kernel_rfl) (TS15_4 call r1) rfl)))) (by funext s h; kernel_rfl)

noncomputable def S15_6b (call : CallF) (r1 : AV → AV → AV → AV → AV → Heap → Res) (t0 : AV) (t2 : AV) (t5 : AV) (t8 : AV) (t9 : AV) (h : Heap) : Res :=
  opt (lenS t5) fun t31 =>
  opt (fastBin .lss t9 t31) fun t32 =>
  test t32
  (S15_5 call r1 t0 t2 t5 t8 t9 h)
  (S15_0 call t0 t2 t5 t8 h)

theorem TS15_6b (call : CallF) (r1 : AV → AV → AV → AV → AV → Heap → Res) : (rk Try.prog call 95 (Code.bd (Code.bd (Code.snd (Code.fst (Code.snd (Code.snd (Code.snd (Code.snd (Code.snd c15)))))))))).1 (fun s h => r1 (s.rd 0) (s.rd 2) (s.rd 5) (s.rd 8) (s.rd 9) h) [(0, (fun s h => S15_0 call (s.rd 0) (s.rd 2) (s.rd 5) (s.rd 8) h))] (finK Try.prog Try.f15.results.toList) (fun _ => stuckK) = fun s h => S15_6b call r1 (s.rd 0) (s.rd 2) (s.rd 5) (s.rd 8) (s.rd 9) h := Eq.trans (seq_t (by kernel_rfl) (TS15_5 call r1) rfl) (by funext s h; kernel_rfl)

noncomputable def S15_1l (call : CallF) : Nat → AV → AV → AV → AV → AV → Heap → Res
  | 0 => fun _ _ _ _ _ _ => none
  | k + 1 => S15_6b call (S15_1l call k)

theorem TS15_1l (call : CallF) : (rk Try.prog call 95 (Code.bd (Code.snd (Code.fst (Code.snd (Code.snd (Code.snd (Code.snd (Code.snd c15))))))))).1 (fun s h => S15_0 call (s.rd 0) (s.rd 2) (s.rd 5) (s.rd 8) h) [(0, (fun s h => S15_0 call (s.rd 0) (s.rd 2) (s.rd 5) (s.rd 8) h))] (finK Try.prog Try.f15.results.toList) (fun _ => stuckK) = fun s h => S15_1l call rounds (s.rd 0) (s.rd 2) (s.rd 5) (s.rd 8) (s.rd 9) h :=
  loop_t (by kernel_rfl) (loop_ind (A := fun m => fun s h => S15_1l call m (s.rd 0) (s.rd 2) (s.rd 5) (s.rd 8) (s.rd 9) h) rfl (fun m => TS15_6b call (S15_1l call m)) rounds)

noncomputable def S15_7 (call : CallF) (t0 : AV) (t2 : AV) (t5 : AV) (t8 : AV) (t9 : AV) (h : Heap) : Res :=
  S15_1l call rounds t0 t2 t5 t8 t9 h

theorem TS15_7 (call : CallF) : (rk Try.prog call 95 (Code.snd (Code.fst (Code.snd (Code.snd (Code.snd (Code.snd (Code.snd c15)))))))).1 (fun s h => S15_0 call (s.rd 0) (s.rd 2) (s.rd 5) (s.rd 8) h) [] (finK Try.prog Try.f15.results.toList) (fun _ => stuckK) = fun s h => S15_7 call (s.rd 0) (s.rd 2) (s.rd 5) (s.rd 8) (s.rd 9) h := Eq.trans (block_t (id := 0) (by kernel_rfl) (TS15_1l call)) (by funext s h; kernel_rfl)

noncomputable def S15_8 (call : CallF) (t0 : AV) (t2 : AV) (t5 : AV) (t8 : AV) (h : Heap) : Res :=
  S15_7 call t0 t2 t5 t8 (.lit (.int .i64 0)) h

theorem TS15_8 (call : CallF) : (rk Try.prog call 95 (Code.snd (Code.snd (Code.snd (Code.snd (Code.snd c15)))))).1 (finK Try.prog Try.f15.results.toList) [] (finK Try.prog Try.f15.results.toList) (fun _ => stuckK) = fun s h => S15_8 call (s.rd 0) (s.rd 2) (s.rd 5) (s.rd 8) h := Eq.trans (seq_t (by kernel_rfl) (TS15_0 call) (seq_t (by kernel_rfl) (TS15_7 call) rfl)) (by funext s h; kernel_rfl)

noncomputable def S15_9 (call : CallF) (t0 : AV) (t2 : AV) (t5 : AV) (h : Heap) : Res :=
  S15_8 call t0 t2 t5 (.lit (.int .i64 0)) h

theorem TS15_9 (call : CallF) : (rk Try.prog call 95 (Code.snd (Code.snd (Code.snd (Code.snd c15))))).1 (finK Try.prog Try.f15.results.toList) [] (finK Try.prog Try.f15.results.toList) (fun _ => stuckK) = fun s h => S15_9 call (s.rd 0) (s.rd 2) (s.rd 5) h := Eq.trans (seq_t (by kernel_rfl) (TS15_8 call) rfl) (by funext s h; kernel_rfl)

noncomputable def S15_10 (call : CallF) (t0 : AV) (t2 : AV) (t5 : AV) (h : Heap) : Res :=
  opt (lenS t5) fun t24 =>
  opt (fastBin .eql t24 (.lit (.int .i64 0))) fun t25 =>
  test t25
  (opt (buildX [(.lit (.int .i64 0)), (.lit (.int .i64 0)), (.lit (.string ⟨⟨[]⟩⟩)), (.lit (.slice none 0 0))] [(0, 1), (1, 1), (2, 1), (3, 1)] []) fun t26 =>
  opt (lenStr t0) fun t28 =>
  optH (storeX 4 t2 t26 h) fun h1 =>
  opt (loadX (some 4) t2 h1) fun res =>
  some ((.tup [res, (.lit (.int .i64 12)), t28]), h1))
  (S15_9 call t0 t2 t5 h)

theorem TS15_10 (call : CallF) : (rk Try.prog call 95 (Code.snd (Code.snd (Code.snd c15)))).1 (finK Try.prog Try.f15.results.toList) [] (finK Try.prog Try.f15.results.toList) (fun _ => stuckK) = fun s h => S15_10 call (s.rd 0) (s.rd 2) (s.rd 5) h := Eq.trans (seq_t (by kernel_rfl) (TS15_9 call) rfl) (by funext s h; kernel_rfl)

noncomputable def S15_11 (call : CallF) (t0 : AV) (t2 : AV) (t5 : AV) (t6 : AV) (t7 : AV) (h : Heap) : Res :=
  opt (fastBin .neq t6 (.lit (.int .i64 0))) fun t19 =>
  test t19
  (opt (buildX [(.lit (.int .i64 0)), (.lit (.int .i64 0)), (.lit (.string ⟨⟨[]⟩⟩)), (.lit (.slice none 0 0))] [(0, 1), (1, 1), (2, 1), (3, 1)] []) fun t20 =>
  optH (storeX 4 t2 t20 h) fun h1 =>
  opt (loadX (some 4) t2 h1) fun res =>
  some ((.tup [res, t6, t7]), h1))
  (S15_10 call t0 t2 t5 h)

theorem TS15_11 (call : CallF) : (rk Try.prog call 95 (Code.snd (Code.snd c15))).1 (finK Try.prog Try.f15.results.toList) [] (finK Try.prog Try.f15.results.toList) (fun _ => stuckK) = fun s h => S15_11 call (s.rd 0) (s.rd 2) (s.rd 5) (s.rd 6) (s.rd 7) h := Eq.trans (seq_t (by kernel_rfl) (TS15_10 call) rfl) (by funext s h; kernel_rfl)

noncomputable def S15_12 (call : CallF) (t0 : AV) (t2 : AV) (h : Heap) : Res :=
  opt2 (call 25 [t0] h) fun t14 h1 =>
  opt (extractX t14 0) fun t15 =>
  opt (extractX t14 1) fun t16 =>
  opt (extractX t14 2) fun t17 =>
  S15_11 call t0 t2 t15 t16 t17 h1

theorem TS15_12 (call : CallF) : (rk Try.prog call 95 (Code.snd c15)).1 (finK Try.prog Try.f15.results.toList) [] (finK Try.prog Try.f15.results.toList) (fun _ => stuckK) = fun s h => S15_12 call (s.rd 0) (s.rd 2) h := Eq.trans (seq_t (by kernel_rfl) (TS15_11 call) rfl) (by funext s h; kernel_rfl)

/-- hawser/hawserref4.Parse -/
noncomputable def F15 (call : CallF) (a0 : AV) (h : Heap) : Res :=
  opt2 (box (.agg [(.lit (.int .i64 0)), (.lit (.int .i64 0)), (.lit (.string ⟨⟨[]⟩⟩)), (.lit (.slice none 0 0))]) h) fun t2 h1 =>
  S15_12 call a0 t2 h1

theorem TF15 (call : CallF) (a0 : AV) (h : Heap) : (rk Try.prog call 95 c15).1 (finK Try.prog Try.f15.results.toList) [] (finK Try.prog Try.f15.results.toList) (fun _ => stuckK) (argsTr gl 0 [a0]) h = F15 call a0 h := Eq.trans (congrFun (congrFun (seq_t (by kernel_rfl) (TS15_12 call) rfl) _) _) (by kernel_rfl)

noncomputable def N15 : FnF
  | call, [a0], h => F15 call a0 h
  | _, _, _ => none

theorem N15_ok : FnOk Try.prog gl 15 N15 := FnOk.of namesOk mixedOrders lowOk Try.func15 (by kernel_rfl) fun call args h r hF => by
  unfold N15 at hF
  split at hF
  · rw [← hF, ← TF15]; exact bodyK_at (by kernel_rfl) (by kernel_rfl) rfl rfl
  · cases hF

noncomputable def c16 : Code := codeOf Try.f16

noncomputable def S16_0 (call : CallF) (h : Heap) : Res :=
  some ((.lit (.bool true)), h)

theorem TS16_0 (call : CallF) : (rk Try.prog call 59 (Code.snd (Code.snd (Code.snd c16)))).1 (finK Try.prog Try.f16.results.toList) [] (finK Try.prog Try.f16.results.toList) (fun _ => stuckK) = fun s h => S16_0 call h := by funext s h; kernel_rfl

noncomputable def S16_2b (call : CallF) (r1 : AV → AV → AV → AV → Heap → Res) (t2 : AV) (t3 : AV) (t4 : AV) (t7 : AV) (h : Heap) : Res :=
  opt (fieldAddrX 3 t3) fun t40 =>
  opt (loadX none t40 h) fun t41 =>
  opt (lenS t41) fun t42 =>
  opt (fastBin .lss t7 t42) fun t43 =>
  test t43
  (opt (fieldAddrX 3 t3) fun t46 =>
  opt (loadX none t46 h) fun t47 =>
  eqH h h (
  opt (indexAddrS 4 t47 t7 h) fun t49 =>
  eqH h h (
  opt (loadX (some 4) t49 h) fun t50 =>
  eqH h h (
  opt (fieldAddrX 3 t4) fun t51 =>
  opt (loadX none t51 h) fun t52 =>
  eqH h h (
  opt (indexAddrS 4 t52 t7 h) fun t54 =>
  eqH h h (
  opt (loadX (some 4) t54 h) fun t55 =>
  eqH h h (
  opt2 (call 16 [t50, t55, t2] h) fun t57 h1 =>
  eqH h1 h (
  opt (notX t57) fun t58 =>
  test t58
  (some ((.lit (.bool false)), h))
  (opt (fastBin .add t7 (.lit (.int .i64 1))) fun t45 =>
  r1 t2 t3 t4 t45 h)))))))))
  (S16_0 call h)

theorem TS16_2b (call : CallF) (r1 : AV → AV → AV → AV → Heap → Res) : (rk Try.prog call 59 (Code.bd (Code.bd (Code.snd (Code.fst (Code.snd (Code.snd c16))))))).1 (fun s h => r1 (s.rd 2) (s.rd 3) (s.rd 4) (s.rd 7) h) [(0, (fun s h => S16_0 call h))] (finK Try.prog Try.f16.results.toList) (fun _ => stuckK) = fun s h => S16_2b call r1 (s.rd 2) (s.rd 3) (s.rd 4) (s.rd 7) h := by funext s h; kernel_rfl

noncomputable def S16_1l (call : CallF) : Nat → AV → AV → AV → AV → Heap → Res
  | 0 => fun _ _ _ _ _ => none
  | k + 1 => S16_2b call (S16_1l call k)

theorem TS16_1l (call : CallF) : (rk Try.prog call 59 (Code.bd (Code.snd (Code.fst (Code.snd (Code.snd c16)))))).1 (fun s h => S16_0 call h) [(0, (fun s h => S16_0 call h))] (finK Try.prog Try.f16.results.toList) (fun _ => stuckK) = fun s h => S16_1l call rounds (s.rd 2) (s.rd 3) (s.rd 4) (s.rd 7) h :=
  loop_t (by kernel_rfl) (loop_ind (A := fun m => fun s h => S16_1l call m (s.rd 2) (s.rd 3) (s.rd 4) (s.rd 7) h) rfl (fun m => TS16_2b call (S16_1l call m)) rounds)

noncomputable def S16_3 (call : CallF) (t2 : AV) (t3 : AV) (t4 : AV) (t7 : AV) (h : Heap) : Res :=
  S16_1l call rounds t2 t3 t4 t7 h

theorem TS16_3 (call : CallF) : (rk Try.prog call 59 (Code.snd (Code.fst (Code.snd (Code.snd c16))))).1 (fun s h => S16_0 call h) [] (finK Try.prog Try.f16.results.toList) (fun _ => stuckK) = fun s h => S16_3 call (s.rd 2) (s.rd 3) (s.rd 4) (s.rd 7) h := Eq.trans (block_t (id := 0) (by kernel_rfl) (TS16_1l call)) (by funext s h; kernel_rfl)

noncomputable def S16_4 (call : CallF) (t2 : AV) (t3 : AV) (t4 : AV) (h : Heap) : Res :=
  S16_3 call t2 t3 t4 (.lit (.int .i64 0)) h

theorem TS16_4 (call : CallF) : (rk Try.prog call 59 (Code.snd (Code.snd c16))).1 (finK Try.prog Try.f16.results.toList) [] (finK Try.prog Try.f16.results.toList) (fun _ => stuckK) = fun s h => S16_4 call (s.rd 2) (s.rd 3) (s.rd 4) h := Eq.trans (seq_t (by kernel_rfl) (TS16_0 call) (seq_t (by kernel_rfl) (TS16_3 call) rfl)) (by funext s h; kernel_rfl)

noncomputable def S16_5 (call : CallF) (t2 : AV) (t3 : AV) (t4 : AV) (h : Heap) : Res :=
  opt (fieldAddrX 0 t3) fun t8 =>
  opt (loadX none t8 h) fun t9 =>
  opt (fieldAddrX 0 t4) fun t10 =>
  opt (loadX none t10 h) fun t11 =>
  opt (fastBin .neq t9 t11) fun t12 =>
  test t12
  (some ((.lit (.bool false)), h))
  (test t2
  (opt (fieldAddrX 1 t3) fun t16 =>
  opt (loadX none t16 h) fun t17 =>
  opt (fieldAddrX 1 t4) fun t18 =>
  opt (loadX none t18 h) fun t19 =>
  opt (fastBin .neq t17 t19) fun t20 =>
  test t20
  (some ((.lit (.bool false)), h))
  (opt (fieldAddrX 2 t3) fun t24 =>
  opt (loadX none t24 h) fun t25 =>
  opt (fieldAddrX 2 t4) fun t26 =>
  opt (loadX none t26 h) fun t27 =>
  opt (fastBin .neq t25 t27) fun t28 =>
  test t28
  (some ((.lit (.bool false)), h))
  (opt (fieldAddrX 3 t3) fun t31 =>
  opt (loadX none t31 h) fun t32 =>
  opt (lenS t32) fun t33 =>
  opt (fieldAddrX 3 t4) fun t34 =>
  opt (loadX none t34 h) fun t35 =>
  opt (lenS t35) fun t36 =>
  opt (fastBin .neq t33 t36) fun t37 =>
  test t37
  (some ((.lit (.bool false)), h))
  (S16_4 call t2 t3 t4 h))))
  (opt (fieldAddrX 2 t3) fun t24_1 =>
  opt (loadX none t24_1 h) fun t25_1 =>
  opt (fieldAddrX 2 t4) fun t26_1 =>
  opt (loadX none t26_1 h) fun t27_1 =>
  opt (fastBin .neq t25_1 t27_1) fun t28_1 =>
  test t28_1
  (some ((.lit (.bool false)), h))
  (opt (fieldAddrX 3 t3) fun t31_1 =>
  opt (loadX none t31_1 h) fun t32_1 =>
  opt (lenS t32_1) fun t33_1 =>
  opt (fieldAddrX 3 t4) fun t34_1 =>
  opt (loadX none t34_1 h) fun t35_1 =>
  opt (lenS t35_1) fun t36_1 =>
  opt (fastBin .neq t33_1 t36_1) fun t37_1 =>
  test t37_1
  (some ((.lit (.bool false)), h))
  (S16_4 call t2 t3 t4 h))))

theorem TS16_5 (call : CallF) : (rk Try.prog call 59 (Code.snd c16)).1 (finK Try.prog Try.f16.results.toList) [] (finK Try.prog Try.f16.results.toList) (fun _ => stuckK) = fun s h => S16_5 call (s.rd 2) (s.rd 3) (s.rd 4) h := Eq.trans (seq_t (by kernel_rfl) (TS16_4 call) rfl) (by funext s h; kernel_rfl)

/-- hawser/hawserlaw4.same -/
noncomputable def F16 (call : CallF) (a0 : AV) (a1 : AV) (a2 : AV) (h : Heap) : Res :=
  opt2 (box a0 h) fun t3 h1 =>
  opt2 (box a1 h1) fun t4 h2 =>
  S16_5 call a2 t3 t4 h2

theorem TF16 (call : CallF) (a0 : AV) (a1 : AV) (a2 : AV) (h : Heap) : (rk Try.prog call 59 c16).1 (finK Try.prog Try.f16.results.toList) [] (finK Try.prog Try.f16.results.toList) (fun _ => stuckK) (argsTr gl 0 [a0, a1, a2]) h = F16 call a0 a1 a2 h := Eq.trans (congrFun (congrFun (seq_t (by kernel_rfl) (TS16_5 call) rfl) _) _) (by kernel_rfl)

noncomputable def N16 : FnF
  | call, [a0, a1, a2], h => F16 call a0 a1 a2 h
  | _, _, _ => none

theorem N16_ok : FnOk Try.prog gl 16 N16 := FnOk.of namesOk mixedOrders lowOk Try.func16 (by kernel_rfl) fun call args h r hF => by
  unfold N16 at hF
  split at hF
  · rw [← hF, ← TF16]; exact bodyK_at (by kernel_rfl) (by kernel_rfl) rfl rfl
  · cases hF

noncomputable def c17 : Code := codeOf Try.f17

noncomputable def S17_0 (call : CallF) (h : Heap) : Res :=
  some ((.lit (.string ⟨⟨[]⟩⟩)), h)

theorem TS17_0 (call : CallF) : (rk Try.prog call 39 (Code.snd (Code.snd c17))).1 (finK Try.prog Try.f17.results.toList) [] (finK Try.prog Try.f17.results.toList) (fun _ => stuckK) = fun s h => S17_0 call h := by funext s h; kernel_rfl

noncomputable def S17_1 (call : CallF) (t3 : AV) (h : Heap) : Res :=
  opt (fastBin .add t3 (.lit (.string ⟨⟨[41]⟩⟩))) fun t38 =>
  some (t38, h)

theorem TS17_1 (call : CallF) : (rk Try.prog call 39 (Code.snd (Code.snd (Code.thn (Code.snd (Code.els (Code.snd (Code.els (Code.snd (Code.bd (Code.snd (Code.fst (Code.snd c17))))))))))))).1 (fun s h => S17_0 call h) [(0, (fun s h => S17_0 call h))] (finK Try.prog Try.f17.results.toList) (fun _ => stuckK) = fun s h => S17_1 call (s.rd 3) h := by funext s h; kernel_rfl

noncomputable def S17_3 (call : CallF) (r2 : AV → AV → AV → Heap → Res) (t1 : AV) (t3 : AV) (t4 : AV) (h : Heap) : Res :=
  opt (fastBin .add t4 (.lit (.int .i64 1))) fun t24 =>
  r2 t1 t3 t24 h

theorem TS17_3 (call : CallF) (r2 : AV → AV → AV → Heap → Res) : (rk Try.prog call 39 (Code.snd (Code.snd (Code.bd (Code.bd (Code.snd (Code.fst (Code.snd (Code.thn (Code.snd (Code.els (Code.snd (Code.els (Code.snd (Code.bd (Code.snd (Code.fst (Code.snd c17)))))))))))))))))).1 (fun s h => r2 (s.rd 1) (s.rd 3) (s.rd 4) h) [(1, (fun s h => S17_1 call (s.rd 3) h)), (0, (fun s h => S17_0 call h))] (finK Try.prog Try.f17.results.toList) (fun _ => stuckK) = fun s h => S17_3 call r2 (s.rd 1) (s.rd 3) (s.rd 4) h := by funext s h; kernel_rfl

noncomputable def S17_4 (call : CallF) (r2 : AV → AV → AV → Heap → Res) (t1 : AV) (t3 : AV) (t4 : AV) (h : Heap) : Res :=
  opt (fieldAddrX 3 t1) fun t30 =>
  opt (loadX none t30 h) fun t31 =>
  opt (indexAddrS 4 t31 t4 h) fun t33 =>
  opt (loadX (some 4) t33 h) fun t34 =>
  opt2 (call 17 [t34] h) fun t35 h1 =>
  opt (fastBin .add t3 t35) fun t36 =>
  S17_3 call r2 t1 t36 t4 h1

theorem TS17_4 (call : CallF) (r2 : AV → AV → AV → Heap → Res) : (rk Try.prog call 39 (Code.snd (Code.bd (Code.fst (Code.snd (Code.bd (Code.bd (Code.snd (Code.fst (Code.snd (Code.thn (Code.snd (Code.els (Code.snd (Code.els (Code.snd (Code.bd (Code.snd (Code.fst (Code.snd c17)))))))))))))))))))).1 (fun s h => S17_3 call r2 (s.rd 1) (s.rd 3) (s.rd 4) h) [(2, (fun s h => S17_3 call r2 (s.rd 1) (s.rd 3) (s.rd 4) h)), (1, (fun s h => S17_1 call (s.rd 3) h)), (0, (fun s h => S17_0 call h))] (finK Try.prog Try.f17.results.toList) (fun _ => stuckK) = fun s h => S17_4 call r2 (s.rd 1) (s.rd 3) (s.rd 4) h := by funext s h; kernel_rfl

noncomputable def S17_5 (call : CallF) (r2 : AV → AV → AV → Heap → Res) (t1 : AV) (t3 : AV) (t4 : AV) (h : Heap) : Res :=
  opt (fastBin .gtr t4 (.lit (.int .i64 0))) fun t26 =>
  test t26
  (opt (fastBin .add t3 (.lit (.string ⟨⟨[32]⟩⟩))) fun t28 =>
  S17_4 call r2 t1 t28 t4 h)
  (S17_4 call r2 t1 t3 t4 h)

theorem TS17_5 (call : CallF) (r2 : AV → AV → AV → Heap → Res) : (rk Try.prog call 39 (Code.snd (Code.bd (Code.bd (Code.snd (Code.fst (Code.snd (Code.thn (Code.snd (Code.els (Code.snd (Code.els (Code.snd (Code.bd (Code.snd (Code.fst (Code.snd c17))))))))))))))))).1 (fun s h => r2 (s.rd 1) (s.rd 3) (s.rd 4) h) [(1, (fun s h => S17_1 call (s.rd 3) h)), (0, (fun s h => S17_0 call h))] (finK Try.prog Try.f17.results.toList) (fun _ => stuckK) = fun s h => S17_5 call r2 (s.rd 1) (s.rd 3) (s.rd 4) h := Eq.trans (seq_t (by kernel_rfl) (TS17_3 call r2) (block_t (id := 2) (by kernel_rfl) (seq_t (by kernel_rfl) (TS17_4 call r2) rfl))) (by funext s h; kernel_rfl)

noncomputable def S17_6b (call : CallF) (r2 : AV → AV → AV → Heap → Res) (t1 : AV) (t3 : AV) (t4 : AV) (h : Heap) : Res :=
  opt (fieldAddrX 3 t1) fun t19 =>
  opt (loadX none t19 h) fun t20 =>
  opt (lenS t20) fun t21 =>
  opt (fastBin .lss t4 t21) fun t22 =>
  test t22
  (S17_5 call r2 t1 t3 t4 h)
  (S17_1 call t3 h)

theorem TS17_6b (call : CallF) (r2 : AV → AV → AV → Heap → Res) : (rk Try.prog call 39 (Code.bd (Code.bd (Code.snd (Code.fst (Code.snd (Code.thn (Code.snd (Code.els (Code.snd (Code.els (Code.snd (Code.bd (Code.snd (Code.fst (Code.snd c17)))))))))))))))).1 (fun s h => r2 (s.rd 1) (s.rd 3) (s.rd 4) h) [(1, (fun s h => S17_1 call (s.rd 3) h)), (0, (fun s h => S17_0 call h))] (finK Try.prog Try.f17.results.toList) (fun _ => stuckK) = fun s h => S17_6b call r2 (s.rd 1) (s.rd 3) (s.rd 4) h := Eq.trans (seq_t (by kernel_rfl) (TS17_5 call r2) rfl) (by funext s h; kernel_rfl)

noncomputable def S17_2l (call : CallF) : Nat → AV → AV → AV → Heap → Res
  | 0 => fun _ _ _ _ => none
  | k + 1 => S17_6b call (S17_2l call k)

theorem TS17_2l (call : CallF) : (rk Try.prog call 39 (Code.bd (Code.snd (Code.fst (Code.snd (Code.thn (Code.snd (Code.els (Code.snd (Code.els (Code.snd (Code.bd (Code.snd (Code.fst (Code.snd c17))))))))))))))).1 (fun s h => S17_1 call (s.rd 3) h) [(1, (fun s h => S17_1 call (s.rd 3) h)), (0, (fun s h => S17_0 call h))] (finK Try.prog Try.f17.results.toList) (fun _ => stuckK) = fun s h => S17_2l call rounds (s.rd 1) (s.rd 3) (s.rd 4) h :=
  loop_t (by kernel_rfl) (loop_ind (A := fun m => fun s h => S17_2l call m (s.rd 1) (s.rd 3) (s.rd 4) h) rfl (fun m => TS17_6b call (S17_2l call m)) rounds)

noncomputable def S17_7 (call : CallF) (t1 : AV) (t3 : AV) (t4 : AV) (h : Heap) : Res :=
  S17_2l call rounds t1 t3 t4 h

theorem TS17_7 (call : CallF) : (rk Try.prog call 39 (Code.snd (Code.fst (Code.snd (Code.thn (Code.snd (Code.els (Code.snd (Code.els (Code.snd (Code.bd (Code.snd (Code.fst (Code.snd c17)))))))))))))).1 (fun s h => S17_1 call (s.rd 3) h) [(0, (fun s h => S17_0 call h))] (finK Try.prog Try.f17.results.toList) (fun _ => stuckK) = fun s h => S17_7 call (s.rd 1) (s.rd 3) (s.rd 4) h := Eq.trans (block_t (id := 1) (by kernel_rfl) (TS17_2l call)) (by funext s h; kernel_rfl)

noncomputable def S17_8 (call : CallF) (t1 : AV) (t3 : AV) (h : Heap) : Res :=
  S17_7 call t1 t3 (.lit (.int .i64 0)) h

theorem TS17_8 (call : CallF) : (rk Try.prog call 39 (Code.snd (Code.thn (Code.snd (Code.els (Code.snd (Code.els (Code.snd (Code.bd (Code.snd (Code.fst (Code.snd c17)))))))))))).1 (fun s h => S17_0 call h) [(0, (fun s h => S17_0 call h))] (finK Try.prog Try.f17.results.toList) (fun _ => stuckK) = fun s h => S17_8 call (s.rd 1) (s.rd 3) h := Eq.trans (seq_t (by kernel_rfl) (TS17_1 call) (seq_t (by kernel_rfl) (TS17_7 call) rfl)) (by funext s h; kernel_rfl)

noncomputable def S17_9 (call : CallF) (t1 : AV) (h : Heap) : Res :=
  S17_8 call t1 (.lit (.string ⟨⟨[40]⟩⟩)) h

theorem TS17_9 (call : CallF) : (rk Try.prog call 39 (Code.thn (Code.snd (Code.els (Code.snd (Code.els (Code.snd (Code.bd (Code.snd (Code.fst (Code.snd c17))))))))))).1 (fun s h => S17_0 call h) [(0, (fun s h => S17_0 call h))] (finK Try.prog Try.f17.results.toList) (fun _ => stuckK) = fun s h => S17_9 call (s.rd 1) h := Eq.trans (seq_t (by kernel_rfl) (TS17_8 call) rfl) (by funext s h; kernel_rfl)

noncomputable def S17_10 (call : CallF) (t1 : AV) (t16 : AV) (h : Heap) : Res :=
  test t16
  (S17_9 call t1 h)
  (S17_0 call h)

theorem TS17_10 (call : CallF) : (rk Try.prog call 39 (Code.snd (Code.els (Code.snd (Code.els (Code.snd (Code.bd (Code.snd (Code.fst (Code.snd c17)))))))))).1 (fun s h => S17_0 call h) [(0, (fun s h => S17_0 call h))] (finK Try.prog Try.f17.results.toList) (fun _ => stuckK) = fun s h => S17_10 call (s.rd 1) (s.rd 16) h := Eq.trans (cond_t (by kernel_rfl) (TS17_9 call) rfl) (by funext s h; kernel_rfl)

noncomputable def S17_11 (call : CallF) (t1 : AV) (t6 : AV) (h : Heap) : Res :=
  opt (fastBin .eql t6 (.lit (.int .i64 1))) fun t17 =>
  S17_10 call t1 t17 h

theorem TS17_11 (call : CallF) : (rk Try.prog call 39 (Code.els (Code.snd (Code.els (Code.snd (Code.bd (Code.snd (Code.fst (Code.snd c17))))))))).1 (fun s h => S17_0 call h) [(0, (fun s h => S17_0 call h))] (finK Try.prog Try.f17.results.toList) (fun _ => stuckK) = fun s h => S17_11 call (s.rd 1) (s.rd 6) h := Eq.trans (seq_t (by kernel_rfl) (TS17_10 call) rfl) (by funext s h; kernel_rfl)

noncomputable def S17_12 (call : CallF) (t1 : AV) (t6 : AV) (t11 : AV) (h : Heap) : Res :=
  test t11
  (opt (fieldAddrX 2 t1) fun t13 =>
  opt (loadX none t13 h) fun t14 =>
  opt2 (call 27 [t14] h) fun t15 h1 =>
  some (t15, h1))
  (S17_11 call t1 t6 h)

theorem TS17_12 (call : CallF) : (rk Try.prog call 39 (Code.snd (Code.els (Code.snd (Code.bd (Code.snd (Code.fst (Code.snd c17)))))))).1 (fun s h => S17_0 call h) [(0, (fun s h => S17_0 call h))] (finK Try.prog Try.f17.results.toList) (fun _ => stuckK) = fun s h => S17_12 call (s.rd 1) (s.rd 6) (s.rd 11) h := Eq.trans (cond_t (by kernel_rfl) rfl (TS17_11 call)) (by funext s h; kernel_rfl)

noncomputable def S17_13 (call : CallF) (t1 : AV) (t6 : AV) (h : Heap) : Res :=
  opt (fastBin .eql t6 (.lit (.int .i64 4))) fun t12 =>
  S17_12 call t1 t6 t12 h

theorem TS17_13 (call : CallF) : (rk Try.prog call 39 (Code.els (Code.snd (Code.bd (Code.snd (Code.fst (Code.snd c17))))))).1 (fun s h => S17_0 call h) [(0, (fun s h => S17_0 call h))] (finK Try.prog Try.f17.results.toList) (fun _ => stuckK) = fun s h => S17_13 call (s.rd 1) (s.rd 6) h := Eq.trans (seq_t (by kernel_rfl) (TS17_12 call) rfl) (by funext s h; kernel_rfl)

noncomputable def S17_14 (call : CallF) (t1 : AV) (t6 : AV) (t7 : AV) (h : Heap) : Res :=
  test t7
  (opt (fieldAddrX 2 t1) fun t9 =>
  opt (loadX none t9 h) fun t10 =>
  some (t10, h))
  (S17_13 call t1 t6 h)

theorem TS17_14 (call : CallF) : (rk Try.prog call 39 (Code.snd (Code.bd (Code.snd (Code.fst (Code.snd c17)))))).1 (fun s h => S17_0 call h) [(0, (fun s h => S17_0 call h))] (finK Try.prog Try.f17.results.toList) (fun _ => stuckK) = fun s h => S17_14 call (s.rd 1) (s.rd 6) (s.rd 7) h := Eq.trans (cond_t (by kernel_rfl) rfl (TS17_13 call)) (by funext s h; kernel_rfl)

noncomputable def S17_15 (call : CallF) (t1 : AV) (t6 : AV) (h : Heap) : Res :=
  opt (fastBin .eql t6 (.lit (.int .i64 3))) fun t8 =>
  S17_14 call t1 t6 t8 h

theorem TS17_15 (call : CallF) : (rk Try.prog call 39 (Code.snd (Code.fst (Code.snd c17)))).1 (fun s h => S17_0 call h) [] (finK Try.prog Try.f17.results.toList) (fun _ => stuckK) = fun s h => S17_15 call (s.rd 1) (s.rd 6) h := Eq.trans (block_t (id := 0) (by kernel_rfl) (seq_t (by kernel_rfl) (TS17_14 call) rfl)) (by funext s h; kernel_rfl)

noncomputable def S17_16 (call : CallF) (t1 : AV) (h : Heap) : Res :=
  opt (fieldAddrX 0 t1) fun t5 =>
  opt (loadX none t5 h) fun t6 =>
  S17_15 call t1 t6 h

theorem TS17_16 (call : CallF) : (rk Try.prog call 39 (Code.snd c17)).1 (finK Try.prog Try.f17.results.toList) [] (finK Try.prog Try.f17.results.toList) (fun _ => stuckK) = fun s h => S17_16 call (s.rd 1) h := Eq.trans (seq_t (by kernel_rfl) (TS17_0 call) (seq_t (by kernel_rfl) (TS17_15 call) rfl)) (by funext s h; kernel_rfl)

/-- hawser/hawserref4.Print -/
noncomputable def F17 (call : CallF) (a0 : AV) (h : Heap) : Res :=
  opt2 (box a0 h) fun t1 h1 =>
  S17_16 call t1 h1

theorem TF17 (call : CallF) (a0 : AV) (h : Heap) : (rk Try.prog call 39 c17).1 (finK Try.prog Try.f17.results.toList) [] (finK Try.prog Try.f17.results.toList) (fun _ => stuckK) (argsTr gl 0 [a0]) h = F17 call a0 h := Eq.trans (congrFun (congrFun (seq_t (by kernel_rfl) (TS17_16 call) rfl) _) _) (by kernel_rfl)

noncomputable def N17 : FnF
  | call, [a0], h => F17 call a0 h
  | _, _, _ => none

theorem N17_ok : FnOk Try.prog gl 17 N17 := FnOk.of namesOk mixedOrders lowOk Try.func17 (by kernel_rfl) fun call args h r hF => by
  unfold N17 at hF
  split at hF
  · rw [← hF, ← TF17]; exact bodyK_at (by kernel_rfl) (by kernel_rfl) rfl rfl
  · cases hF

noncomputable def c18 : Code := codeOf Try.f18

noncomputable def S18_0 (call : CallF) (t8 : AV) (t11 : AV) (h : Heap) : Res :=
  opt (loadX (some 4) t11 h) fun t88 =>
  optH (storeX 4 t8 t88 h) fun h1 =>
  opt (loadX (some 4) t8 h1) fun res =>
  some (res, h1)

theorem TS18_0 (call : CallF) : (rk Try.prog call 89 (Code.snd (Code.snd (Code.snd (Code.snd (Code.snd (Code.snd (Code.snd (Code.snd c18))))))))).1 (finK Try.prog Try.f18.results.toList) [] (finK Try.prog Try.f18.results.toList) (fun _ => stuckK) = fun s h => S18_0 call (s.rd 8) (s.rd 11) h := by funext s h; kernel_rfl

noncomputable def S18_2b (call : CallF) (r1 : AV → AV → AV → AV → AV → AV → AV → Heap → Res) (t0 : AV) (t1 : AV) (t2 : AV) (t3 : AV) (t8 : AV) (t11 : AV) (t12 : AV) (h : Heap) : Res :=
  opt (fastBin .gtr t12 (.lit (.int .i64 0))) fun t74 =>
  test t74
  (opt (fieldAddrX 3 t11) fun t77 =>
  opt (loadX none t77 h) fun t78 =>
  eqH h h (
  opt (fastBin .sub t3 (.lit (.int .i64 1))) fun t83 =>
  opt2 (call 18 [t0, t1, t2, t83] h) fun t84 h1 =>
  opt (loadX none t77 h1) fun t78_1 =>
  eqK t78_1 t78 (eqH h1 h1 (
  opt2 (bsliceX 4 (.agg [(.lit (.int .i64 0)), (.lit (.int .i64 0)), (.lit (.string ⟨⟨[]⟩⟩)), (.lit (.slice none 0 0))]) 1 [(0, t84)] h1) fun t85 h2 =>
  eqH h2 h1 (
  opt2 (appendX 4 56 t78 t85 h1) fun t86 h3 =>
  opt (fieldAddrX 3 t11) fun t87 =>
  optH (storeX 1 t87 t86 h3) fun h4 =>
  opt (fastBin .sub t12 (.lit (.int .i64 1))) fun t76 =>
  r1 t0 t1 t2 t3 t8 t11 t76 h4)))))
  (S18_0 call t8 t11 h)

theorem TS18_2b (call : CallF) (r1 : AV → AV → AV → AV → AV → AV → AV → Heap → Res) : (rk Try.prog call 89 (Code.bd (Code.bd (Code.snd (Code.fst (Code.snd (Code.snd (Code.snd (Code.snd (Code.snd (Code.snd (Code.snd c18)))))))))))).1 (fun s h => r1 (s.rd 0) (s.rd 1) (s.rd 2) (s.rd 3) (s.rd 8) (s.rd 11) (s.rd 12) h) [(1, (fun s h => S18_0 call (s.rd 8) (s.rd 11) h))] (finK Try.prog Try.f18.results.toList) (fun _ => stuckK) = fun s h => S18_2b call r1 (s.rd 0) (s.rd 1) (s.rd 2) (s.rd 3) (s.rd 8) (s.rd 11) (s.rd 12) h := by funext s h; kernel_rfl

noncomputable def S18_1l (call : CallF) : Nat → AV → AV → AV → AV → AV → AV → AV → Heap → Res
  | 0 => fun _ _ _ _ _ _ _ _ => none
  | k + 1 => S18_2b call (S18_1l call k)

theorem TS18_1l (call : CallF) : (rk Try.prog call 89 (Code.bd (Code.snd (Code.fst (Code.snd (Code.snd (Code.snd (Code.snd (Code.snd (Code.snd (Code.snd c18))))))))))).1 (fun s h => S18_0 call (s.rd 8) (s.rd 11) h) [(1, (fun s h => S18_0 call (s.rd 8) (s.rd 11) h))] (finK Try.prog Try.f18.results.toList) (fun _ => stuckK) = fun s h => S18_1l call rounds (s.rd 0) (s.rd 1) (s.rd 2) (s.rd 3) (s.rd 8) (s.rd 11) (s.rd 12) h :=
  loop_t (by kernel_rfl) (loop_ind (A := fun m => fun s h => S18_1l call m (s.rd 0) (s.rd 1) (s.rd 2) (s.rd 3) (s.rd 8) (s.rd 11) (s.rd 12) h) rfl (fun m => TS18_2b call (S18_1l call m)) rounds)

noncomputable def S18_3 (call : CallF) (t0 : AV) (t1 : AV) (t2 : AV) (t3 : AV) (t8 : AV) (t11 : AV) (t12 : AV) (h : Heap) : Res :=
  S18_1l call rounds t0 t1 t2 t3 t8 t11 t12 h

theorem TS18_3 (call : CallF) : (rk Try.prog call 89 (Code.snd (Code.fst (Code.snd (Code.snd (Code.snd (Code.snd (Code.snd (Code.snd (Code.snd c18)))))))))).1 (fun s h => S18_0 call (s.rd 8) (s.rd 11) h) [] (finK Try.prog Try.f18.results.toList) (fun _ => stuckK) = fun s h => S18_3 call (s.rd 0) (s.rd 1) (s.rd 2) (s.rd 3) (s.rd 8) (s.rd 11) (s.rd 12) h := Eq.trans (block_t (id := 1) (by kernel_rfl) (TS18_1l call)) (by funext s h; kernel_rfl)

noncomputable def S18_4 (call : CallF) (t0 : AV) (t1 : AV) (t2 : AV) (t3 : AV) (t8 : AV) (t9 : AV) (t11 : AV) (h : Heap) : Res :=
  opt (binX Try.prog .none .rem 3 t9 (.lit (.int .i64 4))) fun t72 =>
  S18_3 call t0 t1 t2 t3 t8 t11 t72 h

theorem TS18_4 (call : CallF) : (rk Try.prog call 89 (Code.snd (Code.snd (Code.snd (Code.snd (Code.snd (Code.snd (Code.snd c18)))))))).1 (finK Try.prog Try.f18.results.toList) [] (finK Try.prog Try.f18.results.toList) (fun _ => stuckK) = fun s h => S18_4 call (s.rd 0) (s.rd 1) (s.rd 2) (s.rd 3) (s.rd 8) (s.rd 9) (s.rd 11) h := Eq.trans (seq_t (by kernel_rfl) (TS18_0 call) (seq_t (by kernel_rfl) (TS18_3 call) rfl)) (by funext s h; kernel_rfl)

noncomputable def S18_5 (call : CallF) (t0 : AV) (t1 : AV) (t2 : AV) (t3 : AV) (t8 : AV) (t9 : AV) (h : Heap) : Res :=
  opt (buildX [(.lit (.int .i64 0)), (.lit (.int .i64 0)), (.lit (.string ⟨⟨[]⟩⟩)), (.lit (.slice none 0 0))] [(0, 1), (1, 1), (2, 1), (3, 1)] [(0, (.lit (.int .i64 1)))]) fun t70 =>
  opt2 (box (.agg [(.lit (.int .i64 0)), (.lit (.int .i64 0)), (.lit (.string ⟨⟨[]⟩⟩)), (.lit (.slice none 0 0))]) h) fun t11 h1 =>
  optH (storeX 4 t11 t70 h1) fun h2 =>
  S18_4 call t0 t1 t2 t3 t8 t9 t11 h2

theorem TS18_5 (call : CallF) : (rk Try.prog call 89 (Code.snd (Code.snd (Code.snd (Code.snd (Code.snd (Code.snd c18))))))).1 (finK Try.prog Try.f18.results.toList) [] (finK Try.prog Try.f18.results.toList) (fun _ => stuckK) = fun s h => S18_5 call (s.rd 0) (s.rd 1) (s.rd 2) (s.rd 3) (s.rd 8) (s.rd 9) h := Eq.trans (seq_t (by kernel_rfl) (TS18_4 call) rfl) (by funext s h; kernel_rfl)

noncomputable def S18_6 (call : CallF) (t8 : AV) (t10 : AV) (h : Heap) : Res :=
  opt (buildX [(.lit (.int .i64 0)), (.lit (.int .i64 0)), (.lit (.string ⟨⟨[]⟩⟩)), (.lit (.slice none 0 0))] [(0, 1), (1, 1), (2, 1), (3, 1)] [(0, (.lit (.int .i64 4))), (2, t10)]) fun t69 =>
  optH (storeX 4 t8 t69 h) fun h1 =>
  opt (loadX (some 4) t8 h1) fun res =>
  some (res, h1)

theorem TS18_6 (call : CallF) : (rk Try.prog call 89 (Code.snd (Code.snd (Code.snd (Code.thn (Code.snd (Code.els (Code.snd (Code.bd (Code.snd (Code.fst (Code.snd (Code.snd (Code.snd (Code.snd (Code.snd c18)))))))))))))))).1 (fun s h => S18_5 call (s.rd 0) (s.rd 1) (s.rd 2) (s.rd 3) (s.rd 8) (s.rd 9) h) [(0, (fun s h => S18_5 call (s.rd 0) (s.rd 1) (s.rd 2) (s.rd 3) (s.rd 8) (s.rd 9) h))] (finK Try.prog Try.f18.results.toList) (fun _ => stuckK) = fun s h => S18_6 call (s.rd 8) (s.rd 10) h := by funext s h; kernel_rfl

noncomputable def S18_7 (call : CallF) (t8 : AV) (t10 : AV) (h : Heap) : Res :=
  opt (lenStr t10) fun t64 =>
  opt (fastBin .gtr t64 (.lit (.int .i64 40))) fun t65 =>
  test t65
  (opt (fastCut t10 none (some (.lit (.int .i64 40))) none) fun t67 =>
  S18_6 call t8 t67 h)
  (S18_6 call t8 t10 h)

theorem TS18_7 (call : CallF) : (rk Try.prog call 89 (Code.snd (Code.snd (Code.thn (Code.snd (Code.els (Code.snd (Code.bd (Code.snd (Code.fst (Code.snd (Code.snd (Code.snd (Code.snd (Code.snd c18))))))))))))))).1 (fun s h => S18_5 call (s.rd 0) (s.rd 1) (s.rd 2) (s.rd 3) (s.rd 8) (s.rd 9) h) [(0, (fun s h => S18_5 call (s.rd 0) (s.rd 1) (s.rd 2) (s.rd 3) (s.rd 8) (s.rd 9) h))] (finK Try.prog Try.f18.results.toList) (fun _ => stuckK) = fun s h => S18_7 call (s.rd 8) (s.rd 10) h := Eq.trans (seq_t (by kernel_rfl) (TS18_6 call) rfl) (by funext s h; kernel_rfl)

noncomputable def S18_8 (call : CallF) (t1 : AV) (t8 : AV) (t9 : AV) (t10 : AV) (h : Heap) : Res :=
  opt (lenS t1) fun t54 =>
  opt (fastBin .gtr t54 (.lit (.int .i64 0))) fun t55 =>
  test t55
  (opt (lenS t1) fun t59 =>
  opt (binX Try.prog .none .rem 3 t9 t59) fun t60 =>
  opt (indexAddrS 1 t1 t60 h) fun t61 =>
  opt (loadX none t61 h) fun t62 =>
  S18_7 call t8 t62 h)
  (S18_7 call t8 t10 h)

theorem TS18_8 (call : CallF) : (rk Try.prog call 89 (Code.snd (Code.thn (Code.snd (Code.els (Code.snd (Code.bd (Code.snd (Code.fst (Code.snd (Code.snd (Code.snd (Code.snd (Code.snd c18)))))))))))))).1 (fun s h => S18_5 call (s.rd 0) (s.rd 1) (s.rd 2) (s.rd 3) (s.rd 8) (s.rd 9) h) [(0, (fun s h => S18_5 call (s.rd 0) (s.rd 1) (s.rd 2) (s.rd 3) (s.rd 8) (s.rd 9) h))] (finK Try.prog Try.f18.results.toList) (fun _ => stuckK) = fun s h => S18_8 call (s.rd 1) (s.rd 8) (s.rd 9) (s.rd 10) h := Eq.trans (seq_t (by kernel_rfl) (TS18_7 call) rfl) (by funext s h; kernel_rfl)

noncomputable def S18_9 (call : CallF) (t1 : AV) (t8 : AV) (t9 : AV) (h : Heap) : Res :=
  S18_8 call t1 t8 t9 (.lit (.string ⟨⟨[113]⟩⟩)) h

theorem TS18_9 (call : CallF) : (rk Try.prog call 89 (Code.thn (Code.snd (Code.els (Code.snd (Code.bd (Code.snd (Code.fst (Code.snd (Code.snd (Code.snd (Code.snd (Code.snd c18))))))))))))).1 (fun s h => S18_5 call (s.rd 0) (s.rd 1) (s.rd 2) (s.rd 3) (s.rd 8) (s.rd 9) h) [(0, (fun s h => S18_5 call (s.rd 0) (s.rd 1) (s.rd 2) (s.rd 3) (s.rd 8) (s.rd 9) h))] (finK Try.prog Try.f18.results.toList) (fun _ => stuckK) = fun s h => S18_9 call (s.rd 1) (s.rd 8) (s.rd 9) h := Eq.trans (seq_t (by kernel_rfl) (TS18_8 call) rfl) (by funext s h; kernel_rfl)

noncomputable def S18_10 (call : CallF) (t0 : AV) (t1 : AV) (t2 : AV) (t3 : AV) (t8 : AV) (t9 : AV) (t51 : AV) (h : Heap) : Res :=
  test t51
  (S18_9 call t1 t8 t9 h)
  (S18_5 call t0 t1 t2 t3 t8 t9 h)

theorem TS18_10 (call : CallF) : (rk Try.prog call 89 (Code.snd (Code.els (Code.snd (Code.bd (Code.snd (Code.fst (Code.snd (Code.snd (Code.snd (Code.snd (Code.snd c18)))))))))))).1 (fun s h => S18_5 call (s.rd 0) (s.rd 1) (s.rd 2) (s.rd 3) (s.rd 8) (s.rd 9) h) [(0, (fun s h => S18_5 call (s.rd 0) (s.rd 1) (s.rd 2) (s.rd 3) (s.rd 8) (s.rd 9) h))] (finK Try.prog Try.f18.results.toList) (fun _ => stuckK) = fun s h => S18_10 call (s.rd 0) (s.rd 1) (s.rd 2) (s.rd 3) (s.rd 8) (s.rd 9) (s.rd 51) h := Eq.trans (cond_t (by kernel_rfl) (TS18_9 call) rfl) (by funext s h; kernel_rfl)

noncomputable def S18_11 (call : CallF) (t0 : AV) (t1 : AV) (t2 : AV) (t3 : AV) (t8 : AV) (t9 : AV) (t42 : AV) (h : Heap) : Res :=
  opt (fastBin .eql t42 (.lit (.int .i64 1))) fun t52 =>
  S18_10 call t0 t1 t2 t3 t8 t9 t52 h

theorem TS18_11 (call : CallF) : (rk Try.prog call 89 (Code.els (Code.snd (Code.bd (Code.snd (Code.fst (Code.snd (Code.snd (Code.snd (Code.snd (Code.snd c18))))))))))).1 (fun s h => S18_5 call (s.rd 0) (s.rd 1) (s.rd 2) (s.rd 3) (s.rd 8) (s.rd 9) h) [(0, (fun s h => S18_5 call (s.rd 0) (s.rd 1) (s.rd 2) (s.rd 3) (s.rd 8) (s.rd 9) h))] (finK Try.prog Try.f18.results.toList) (fun _ => stuckK) = fun s h => S18_11 call (s.rd 0) (s.rd 1) (s.rd 2) (s.rd 3) (s.rd 8) (s.rd 9) (s.rd 42) h := Eq.trans (seq_t (by kernel_rfl) (TS18_10 call) rfl) (by funext s h; kernel_rfl)

noncomputable def S18_12 (call : CallF) (t0 : AV) (t1 : AV) (t2 : AV) (t3 : AV) (t8 : AV) (t9 : AV) (t42 : AV) (t43 : AV) (h : Heap) : Res :=
  test t43
  (opt2 (bsliceX 1 (.lit (.string ⟨⟨[]⟩⟩)) 5 [(0, (.lit (.string ⟨⟨[97]⟩⟩))), (1, (.lit (.string ⟨⟨[110, 117, 109]⟩⟩))), (2, (.lit (.string ⟨⟨[51, 105]⟩⟩))), (3, (.lit (.string ⟨⟨[109, 46, 84]⟩⟩))), (4, (.lit (.string ⟨⟨[108, 101, 116]⟩⟩)))] h) fun t45 h1 =>
  opt (binX Try.prog .none .rem 3 t9 (.lit (.int .i64 5))) fun t47 =>
  opt (indexAddrS 1 t45 t47 h1) fun t48 =>
  opt (loadX none t48 h1) fun t49 =>
  opt (buildX [(.lit (.int .i64 0)), (.lit (.int .i64 0)), (.lit (.string ⟨⟨[]⟩⟩)), (.lit (.slice none 0 0))] [(0, 1), (1, 1), (2, 1), (3, 1)] [(0, (.lit (.int .i64 3))), (2, t49)]) fun t50 =>
  optH (storeX 4 t8 t50 h1) fun h2 =>
  opt (loadX (some 4) t8 h2) fun res =>
  some (res, h2))
  (S18_11 call t0 t1 t2 t3 t8 t9 t42 h)

theorem TS18_12 (call : CallF) : (rk Try.prog call 89 (Code.snd (Code.bd (Code.snd (Code.fst (Code.snd (Code.snd (Code.snd (Code.snd (Code.snd c18)))))))))).1 (fun s h => S18_5 call (s.rd 0) (s.rd 1) (s.rd 2) (s.rd 3) (s.rd 8) (s.rd 9) h) [(0, (fun s h => S18_5 call (s.rd 0) (s.rd 1) (s.rd 2) (s.rd 3) (s.rd 8) (s.rd 9) h))] (finK Try.prog Try.f18.results.toList) (fun _ => stuckK) = fun s h => S18_12 call (s.rd 0) (s.rd 1) (s.rd 2) (s.rd 3) (s.rd 8) (s.rd 9) (s.rd 42) (s.rd 43) h := Eq.trans (cond_t (by kernel_rfl) rfl (TS18_11 call)) (by funext s h; kernel_rfl)

noncomputable def S18_13 (call : CallF) (t0 : AV) (t1 : AV) (t2 : AV) (t3 : AV) (t8 : AV) (t9 : AV) (t42 : AV) (h : Heap) : Res :=
  opt (fastBin .eql t42 (.lit (.int .i64 0))) fun t44 =>
  S18_12 call t0 t1 t2 t3 t8 t9 t42 t44 h

theorem TS18_13 (call : CallF) : (rk Try.prog call 89 (Code.snd (Code.fst (Code.snd (Code.snd (Code.snd (Code.snd (Code.snd c18)))))))).1 (fun s h => S18_5 call (s.rd 0) (s.rd 1) (s.rd 2) (s.rd 3) (s.rd 8) (s.rd 9) h) [] (finK Try.prog Try.f18.results.toList) (fun _ => stuckK) = fun s h => S18_13 call (s.rd 0) (s.rd 1) (s.rd 2) (s.rd 3) (s.rd 8) (s.rd 9) (s.rd 42) h := Eq.trans (block_t (id := 0) (by kernel_rfl) (seq_t (by kernel_rfl) (TS18_12 call) rfl)) (by funext s h; kernel_rfl)

noncomputable def S18_14 (call : CallF) (t0 : AV) (t1 : AV) (t2 : AV) (t3 : AV) (t8 : AV) (t9 : AV) (h : Heap) : Res :=
  opt (binX Try.prog .none .rem 3 t9 (.lit (.int .i64 3))) fun t42 =>
  S18_13 call t0 t1 t2 t3 t8 t9 t42 h

theorem TS18_14 (call : CallF) : (rk Try.prog call 89 (Code.snd (Code.snd (Code.snd (Code.snd (Code.snd c18)))))).1 (finK Try.prog Try.f18.results.toList) [] (finK Try.prog Try.f18.results.toList) (fun _ => stuckK) = fun s h => S18_14 call (s.rd 0) (s.rd 1) (s.rd 2) (s.rd 3) (s.rd 8) (s.rd 9) h := Eq.trans (seq_t (by kernel_rfl) (TS18_5 call) (seq_t (by kernel_rfl) (TS18_13 call) rfl)) (by funext s h; kernel_rfl)

noncomputable def S18_15 (call : CallF) (t0 : AV) (t1 : AV) (t2 : AV) (t3 : AV) (t8 : AV) (t9 : AV) (h : Heap) : Res :=
  opt (fastBin .lss t9 (.lit (.int .i64 0))) fun t37 =>
  test t37
  (opt (fastBin .add t9 (.lit (.int .i64 1))) fun t39 =>
  opt (litUn Try.prog .neg t39) fun t40 =>
  S18_14 call t0 t1 t2 t3 t8 t40 h)
  (S18_14 call t0 t1 t2 t3 t8 t9 h)

theorem TS18_15 (call : CallF) : (rk Try.prog call 89 (Code.snd (Code.snd (Code.snd (Code.snd c18))))).1 (finK Try.prog Try.f18.results.toList) [] (finK Try.prog Try.f18.results.toList) (fun _ => stuckK) = fun s h => S18_15 call (s.rd 0) (s.rd 1) (s.rd 2) (s.rd 3) (s.rd 8) (s.rd 9) h := Eq.trans (seq_t (by kernel_rfl) (TS18_14 call) rfl) (by funext s h; kernel_rfl)

noncomputable def S18_16 (call : CallF) (t0 : AV) (t1 : AV) (t2 : AV) (t3 : AV) (t8 : AV) (t9 : AV) (h : Heap) : Res :=
  opt (nilCheckX t2) fun t32 =>
  opt (loadX none t32 h) fun t33 =>
  opt (fastBin .add t33 (.lit (.int .i64 1))) fun t34 =>
  opt (nilCheckX t2) fun t35 =>
  optH (storeX 1 t35 t34 h) fun h1 =>
  S18_15 call t0 t1 t2 t3 t8 t9 h1

theorem TS18_16 (call : CallF) : (rk Try.prog call 89 (Code.snd (Code.snd (Code.snd c18)))).1 (finK Try.prog Try.f18.results.toList) [] (finK Try.prog Try.f18.results.toList) (fun _ => stuckK) = fun s h => S18_16 call (s.rd 0) (s.rd 1) (s.rd 2) (s.rd 3) (s.rd 8) (s.rd 9) h := Eq.trans (seq_t (by kernel_rfl) (TS18_15 call) rfl) (by funext s h; kernel_rfl)

noncomputable def S18_17 (call : CallF) (t0 : AV) (t1 : AV) (t2 : AV) (t3 : AV) (t8 : AV) (h : Heap) : Res :=
  opt (nilCheckX t2) fun t26 =>
  opt (loadX none t26 h) fun t27 =>
  opt (indexAddrS 1 t0 t27 h) fun t28 =>
  opt (loadX none t28 h) fun t29 =>
  S18_16 call t0 t1 t2 t3 t8 t29 h

theorem TS18_17 (call : CallF) : (rk Try.prog call 89 (Code.snd (Code.snd c18))).1 (finK Try.prog Try.f18.results.toList) [] (finK Try.prog Try.f18.results.toList) (fun _ => stuckK) = fun s h => S18_17 call (s.rd 0) (s.rd 1) (s.rd 2) (s.rd 3) (s.rd 8) h := Eq.trans (seq_t (by kernel_rfl) (TS18_16 call) rfl) (by funext s h; kernel_rfl)

noncomputable def S18_18 (call : CallF) (t0 : AV) (t1 : AV) (t2 : AV) (t3 : AV) (t8 : AV) (t22 : AV) (h : Heap) : Res :=
  test t22
  (opt (buildX [(.lit (.int .i64 0)), (.lit (.int .i64 0)), (.lit (.string ⟨⟨[]⟩⟩)), (.lit (.slice none 0 0))] [(0, 1), (1, 1), (2, 1), (3, 1)] [(0, (.lit (.int .i64 3))), (2, (.lit (.string ⟨⟨[120]⟩⟩)))]) fun t23 =>
  optH (storeX 4 t8 t23 h) fun h1 =>
  opt (loadX (some 4) t8 h1) fun res =>
  some (res, h1))
  (S18_17 call t0 t1 t2 t3 t8 h)

theorem TS18_18 (call : CallF) : (rk Try.prog call 89 (Code.snd (Code.fst (Code.snd c18)))).1 (fun s h => S18_17 call (s.rd 0) (s.rd 1) (s.rd 2) (s.rd 3) (s.rd 8) h) [] (finK Try.prog Try.f18.results.toList) (fun _ => stuckK) = fun s h => S18_18 call (s.rd 0) (s.rd 1) (s.rd 2) (s.rd 3) (s.rd 8) (s.rd 22) h := by funext s h; kernel_rfl

noncomputable def S18_19 (call : CallF) (t0 : AV) (t1 : AV) (t2 : AV) (t3 : AV) (t8 : AV) (h : Heap) : Res :=
  opt (nilCheckX t2) fun t14 =>
  opt (loadX none t14 h) fun t15 =>
  opt (lenS t0) fun t17 =>
  opt (fastBin .geq t15 t17) fun t18 =>
  test t18
  (S18_18 call t0 t1 t2 t3 t8 (.lit (.bool true)) h)
  (opt (fastBin .leq t3 (.lit (.int .i64 0))) fun t21 =>
  S18_18 call t0 t1 t2 t3 t8 t21 h)

theorem TS18_19 (call : CallF) : (rk Try.prog call 89 (Code.snd c18)).1 (finK Try.prog Try.f18.results.toList) [] (finK Try.prog Try.f18.results.toList) (fun _ => stuckK) = fun s h => S18_19 call (s.rd 0) (s.rd 1) (s.rd 2) (s.rd 3) (s.rd 8) h := Eq.trans (seq_t (by kernel_rfl) (TS18_17 call) (seq_t (by kernel_rfl) (TS18_18 call) rfl)) (by funext s h; kernel_rfl)

/-- hawser/hawserlaw4.made -/
noncomputable def F18 (call : CallF) (a0 : AV) (a1 : AV) (a2 : AV) (a3 : AV) (h : Heap) : Res :=
  opt2 (box (.agg [(.lit (.int .i64 0)), (.lit (.int .i64 0)), (.lit (.string ⟨⟨[]⟩⟩)), (.lit (.slice none 0 0))]) h) fun t8 h1 =>
  S18_19 call a0 a1 a2 a3 t8 h1

theorem TF18 (call : CallF) (a0 : AV) (a1 : AV) (a2 : AV) (a3 : AV) (h : Heap) : (rk Try.prog call 89 c18).1 (finK Try.prog Try.f18.results.toList) [] (finK Try.prog Try.f18.results.toList) (fun _ => stuckK) (argsTr gl 0 [a0, a1, a2, a3]) h = F18 call a0 a1 a2 a3 h := Eq.trans (congrFun (congrFun (seq_t (by kernel_rfl) (TS18_19 call) rfl) _) _) (by kernel_rfl)

noncomputable def N18 : FnF
  | call, [a0, a1, a2, a3], h => F18 call a0 a1 a2 a3 h
  | _, _, _ => none

theorem N18_ok : FnOk Try.prog gl 18 N18 := FnOk.of namesOk mixedOrders lowOk Try.func18 (by kernel_rfl) fun call args h r hF => by
  unfold N18 at hF
  split at hF
  · rw [← hF, ← TF18]; exact bodyK_at (by kernel_rfl) (by kernel_rfl) rfl rfl
  · cases hF

noncomputable def c19 : Code := codeOf Try.f19

noncomputable def S19_0 (call : CallF) (t2 : AV) (t3 : AV) (h : Heap) : Res :=
  opt (loadX (some 4) t3 h) fun t30 =>
  optH (storeX 4 t2 t30 h) fun h1 =>
  opt (loadX (some 4) t2 h1) fun res =>
  some (res, h1)

theorem TS19_0 (call : CallF) : (rk Try.prog call 31 (Code.snd (Code.snd (Code.snd c19)))).1 (finK Try.prog Try.f19.results.toList) [] (finK Try.prog Try.f19.results.toList) (fun _ => stuckK) = fun s h => S19_0 call (s.rd 2) (s.rd 3) h := by funext s h; kernel_rfl

noncomputable def S19_2b (call : CallF) (r1 : AV → AV → AV → AV → Heap → Res) (t1 : AV) (t2 : AV) (t3 : AV) (t4 : AV) (h : Heap) : Res :=
  opt (fieldAddrX 3 t1) fun t13 =>
  opt (loadX none t13 h) fun t14 =>
  opt (lenS t14) fun t15 =>
  opt (fastBin .lss t4 t15) fun t16 =>
  test t16
  (opt (fieldAddrX 3 t3) fun t19 =>
  opt (loadX none t19 h) fun t20 =>
  eqH h h (
  opt (fieldAddrX 3 t1) fun t21 =>
  opt (loadX none t21 h) fun t22 =>
  eqH h h (
  opt (indexAddrS 4 t22 t4 h) fun t24 =>
  eqH h h (
  opt (loadX (some 4) t24 h) fun t25 =>
  eqH h h (
  opt2 (call 19 [t25] h) fun t26 h1 =>
  eqH h1 h (
  opt2 (bsliceX 4 (.agg [(.lit (.int .i64 0)), (.lit (.int .i64 0)), (.lit (.string ⟨⟨[]⟩⟩)), (.lit (.slice none 0 0))]) 1 [(0, t26)] h) fun t27 h2 =>
  eqH h2 h (
  opt2 (appendX 4 56 t20 t27 h) fun t28 h3 =>
  opt (fieldAddrX 3 t3) fun t29 =>
  optH (storeX 1 t29 t28 h3) fun h4 =>
  opt (fastBin .add t4 (.lit (.int .i64 1))) fun t18 =>
  r1 t1 t2 t3 t18 h4)))))))
  (S19_0 call t2 t3 h)

theorem TS19_2b (call : CallF) (r1 : AV → AV → AV → AV → Heap → Res) : (rk Try.prog call 31 (Code.bd (Code.bd (Code.snd (Code.fst (Code.snd (Code.snd c19))))))).1 (fun s h => r1 (s.rd 1) (s.rd 2) (s.rd 3) (s.rd 4) h) [(0, (fun s h => S19_0 call (s.rd 2) (s.rd 3) h))] (finK Try.prog Try.f19.results.toList) (fun _ => stuckK) = fun s h => S19_2b call r1 (s.rd 1) (s.rd 2) (s.rd 3) (s.rd 4) h := by funext s h; kernel_rfl

noncomputable def S19_1l (call : CallF) : Nat → AV → AV → AV → AV → Heap → Res
  | 0 => fun _ _ _ _ _ => none
  | k + 1 => S19_2b call (S19_1l call k)

theorem TS19_1l (call : CallF) : (rk Try.prog call 31 (Code.bd (Code.snd (Code.fst (Code.snd (Code.snd c19)))))).1 (fun s h => S19_0 call (s.rd 2) (s.rd 3) h) [(0, (fun s h => S19_0 call (s.rd 2) (s.rd 3) h))] (finK Try.prog Try.f19.results.toList) (fun _ => stuckK) = fun s h => S19_1l call rounds (s.rd 1) (s.rd 2) (s.rd 3) (s.rd 4) h :=
  loop_t (by kernel_rfl) (loop_ind (A := fun m => fun s h => S19_1l call m (s.rd 1) (s.rd 2) (s.rd 3) (s.rd 4) h) rfl (fun m => TS19_2b call (S19_1l call m)) rounds)

noncomputable def S19_3 (call : CallF) (t1 : AV) (t2 : AV) (t3 : AV) (t4 : AV) (h : Heap) : Res :=
  S19_1l call rounds t1 t2 t3 t4 h

theorem TS19_3 (call : CallF) : (rk Try.prog call 31 (Code.snd (Code.fst (Code.snd (Code.snd c19))))).1 (fun s h => S19_0 call (s.rd 2) (s.rd 3) h) [] (finK Try.prog Try.f19.results.toList) (fun _ => stuckK) = fun s h => S19_3 call (s.rd 1) (s.rd 2) (s.rd 3) (s.rd 4) h := Eq.trans (block_t (id := 0) (by kernel_rfl) (TS19_1l call)) (by funext s h; kernel_rfl)

noncomputable def S19_4 (call : CallF) (t1 : AV) (t2 : AV) (t3 : AV) (h : Heap) : Res :=
  S19_3 call t1 t2 t3 (.lit (.int .i64 0)) h

theorem TS19_4 (call : CallF) : (rk Try.prog call 31 (Code.snd (Code.snd c19))).1 (finK Try.prog Try.f19.results.toList) [] (finK Try.prog Try.f19.results.toList) (fun _ => stuckK) = fun s h => S19_4 call (s.rd 1) (s.rd 2) (s.rd 3) h := Eq.trans (seq_t (by kernel_rfl) (TS19_0 call) (seq_t (by kernel_rfl) (TS19_3 call) rfl)) (by funext s h; kernel_rfl)

noncomputable def S19_5 (call : CallF) (t1 : AV) (t2 : AV) (h : Heap) : Res :=
  opt (fieldAddrX 0 t1) fun t5 =>
  opt (loadX none t5 h) fun t6 =>
  opt (fieldAddrX 1 t1) fun t7 =>
  opt (loadX none t7 h) fun t8 =>
  opt (fieldAddrX 2 t1) fun t9 =>
  opt (loadX none t9 h) fun t10 =>
  opt (buildX [(.lit (.int .i64 0)), (.lit (.int .i64 0)), (.lit (.string ⟨⟨[]⟩⟩)), (.lit (.slice none 0 0))] [(0, 1), (1, 1), (2, 1), (3, 1)] [(0, t6), (1, t8), (2, t10)]) fun t11 =>
  opt2 (box (.agg [(.lit (.int .i64 0)), (.lit (.int .i64 0)), (.lit (.string ⟨⟨[]⟩⟩)), (.lit (.slice none 0 0))]) h) fun t3 h1 =>
  optH (storeX 4 t3 t11 h1) fun h2 =>
  S19_4 call t1 t2 t3 h2

theorem TS19_5 (call : CallF) : (rk Try.prog call 31 (Code.snd c19)).1 (finK Try.prog Try.f19.results.toList) [] (finK Try.prog Try.f19.results.toList) (fun _ => stuckK) = fun s h => S19_5 call (s.rd 1) (s.rd 2) h := Eq.trans (seq_t (by kernel_rfl) (TS19_4 call) rfl) (by funext s h; kernel_rfl)

/-- hawser/hawserlaw4.plain -/
noncomputable def F19 (call : CallF) (a0 : AV) (h : Heap) : Res :=
  opt2 (box a0 h) fun t1 h1 =>
  opt2 (box (.agg [(.lit (.int .i64 0)), (.lit (.int .i64 0)), (.lit (.string ⟨⟨[]⟩⟩)), (.lit (.slice none 0 0))]) h1) fun t2 h2 =>
  S19_5 call t1 t2 h2

theorem TF19 (call : CallF) (a0 : AV) (h : Heap) : (rk Try.prog call 31 c19).1 (finK Try.prog Try.f19.results.toList) [] (finK Try.prog Try.f19.results.toList) (fun _ => stuckK) (argsTr gl 0 [a0]) h = F19 call a0 h := Eq.trans (congrFun (congrFun (seq_t (by kernel_rfl) (TS19_5 call) rfl) _) _) (by kernel_rfl)

noncomputable def N19 : FnF
  | call, [a0], h => F19 call a0 h
  | _, _, _ => none

theorem N19_ok : FnOk Try.prog gl 19 N19 := FnOk.of namesOk mixedOrders lowOk Try.func19 (by kernel_rfl) fun call args h r hF => by
  unfold N19 at hF
  split at hF
  · rw [← hF, ← TF19]; exact bodyK_at (by kernel_rfl) (by kernel_rfl) rfl rfl
  · cases hF

noncomputable def c25 : Code := codeOf Try.f25

noncomputable def S25_0 (call : CallF) (t5 : AV) (h : Heap) : Res :=
  some ((.tup [t5, (.lit (.int .i64 0)), (.lit (.int .i64 0))]), h)

theorem TS25_0 (call : CallF) : (rk Try.prog call 147 (Code.snd (Code.snd (Code.snd (Code.snd c25))))).1 (finK Try.prog Try.f25.results.toList) [] (finK Try.prog Try.f25.results.toList) (fun _ => stuckK) = fun s h => S25_0 call (s.rd 5) h := by funext s h; kernel_rfl

noncomputable def S25_3 (call : CallF) (r1 : AV → AV → AV → Heap → Res) (r2 : AV → AV → AV → Heap → Res) (t0 : AV) (t5 : AV) (t6 : AV) (h : Heap) : Res :=
  opt (fastBin .add t6 (.lit (.int .i64 1))) fun t95 =>
  r2 t0 t5 t95 h

theorem TS25_3 (call : CallF) (r1 : AV → AV → AV → Heap → Res) (r2 : AV → AV → AV → Heap → Res) : (rk Try.prog call 147 (Code.snd (Code.bd (Code.bd (Code.thn (Code.snd (Code.els (Code.snd (Code.bd (Code.snd (Code.bd (Code.snd (Code.bd (Code.bd (Code.snd (Code.fst (Code.snd (Code.snd (Code.snd c25))))))))))))))))))).1 (fun s h => r2 (s.rd 0) (s.rd 5) (s.rd 6) h) [(5, (fun s h => r1 (s.rd 0) (s.rd 5) (s.rd 6) h)), (2, (fun s h => r1 (s.rd 0) (s.rd 5) (s.rd 6) h)), (1, (fun s h => r1 (s.rd 0) (s.rd 5) (s.rd 6) h)), (0, (fun s h => S25_0 call (s.rd 5) h))] (finK Try.prog Try.f25.results.toList) (fun _ => stuckK) = fun s h => S25_3 call r1 r2 (s.rd 0) (s.rd 5) (s.rd 6) h := by funext s h; kernel_rfl

noncomputable def S25_4b (call : CallF) (r1 : AV → AV → AV → Heap → Res) (r2 : AV → AV → AV → Heap → Res) (t0 : AV) (t5 : AV) (t6 : AV) (h : Heap) : Res :=
  opt (lenStr t0) fun t86 =>
  opt (fastBin .lss t6 t86) fun t87 =>
  test t87
  (opt (fastIndex t0 t6) fun t91 =>
  opt (fastBin .neq t91 (.lit (.int .u8 10))) fun t92 =>
  test t92
  (S25_3 call r1 r2 t0 t5 t6 h)
  (r1 t0 t5 t6 h))
  (r1 t0 t5 t6 h)

theorem TS25_4b (call : CallF) (r1 : AV → AV → AV → Heap → Res) (r2 : AV → AV → AV → Heap → Res) : (rk Try.prog call 147 (Code.bd (Code.bd (Code.thn (Code.snd (Code.els (Code.snd (Code.bd (Code.snd (Code.bd (Code.snd (Code.bd (Code.bd (Code.snd (Code.fst (Code.snd (Code.snd (Code.snd c25)))))))))))))))))).1 (fun s h => r2 (s.rd 0) (s.rd 5) (s.rd 6) h) [(5, (fun s h => r1 (s.rd 0) (s.rd 5) (s.rd 6) h)), (2, (fun s h => r1 (s.rd 0) (s.rd 5) (s.rd 6) h)), (1, (fun s h => r1 (s.rd 0) (s.rd 5) (s.rd 6) h)), (0, (fun s h => S25_0 call (s.rd 5) h))] (finK Try.prog Try.f25.results.toList) (fun _ => stuckK) = fun s h => S25_4b call r1 r2 (s.rd 0) (s.rd 5) (s.rd 6) h := Eq.trans (seq_t (by kernel_rfl) (TS25_3 call r1 r2) rfl) (by funext s h; kernel_rfl)

noncomputable def S25_2l (call : CallF) (r1 : AV → AV → AV → Heap → Res) : Nat → AV → AV → AV → Heap → Res
  | 0 => fun _ _ _ _ => none
  | k + 1 => S25_4b call r1 (S25_2l call r1 k)

theorem TS25_2l (call : CallF) (r1 : AV → AV → AV → Heap → Res) : (rk Try.prog call 147 (Code.bd (Code.thn (Code.snd (Code.els (Code.snd (Code.bd (Code.snd (Code.bd (Code.snd (Code.bd (Code.bd (Code.snd (Code.fst (Code.snd (Code.snd (Code.snd c25))))))))))))))))).1 (fun s h => r1 (s.rd 0) (s.rd 5) (s.rd 6) h) [(5, (fun s h => r1 (s.rd 0) (s.rd 5) (s.rd 6) h)), (2, (fun s h => r1 (s.rd 0) (s.rd 5) (s.rd 6) h)), (1, (fun s h => r1 (s.rd 0) (s.rd 5) (s.rd 6) h)), (0, (fun s h => S25_0 call (s.rd 5) h))] (finK Try.prog Try.f25.results.toList) (fun _ => stuckK) = fun s h => S25_2l call r1 rounds (s.rd 0) (s.rd 5) (s.rd 6) h :=
  loop_t (by kernel_rfl) (loop_ind (A := fun m => fun s h => S25_2l call r1 m (s.rd 0) (s.rd 5) (s.rd 6) h) rfl (fun m => TS25_4b call r1 (S25_2l call r1 m)) rounds)

noncomputable def S25_5 (call : CallF) (r1 : AV → AV → AV → Heap → Res) (t0 : AV) (t5 : AV) (t6 : AV) (t12 : AV) (h : Heap) : Res :=
  opt (fastCut t0 (some t6) (some t12) none) fun t71 =>
  opt (buildX [(.lit (.int .i64 0)), (.lit (.int .i64 0)), (.lit (.string ⟨⟨[]⟩⟩))] [(0, 1), (1, 1), (2, 1)] [(0, (.lit (.int .i64 3))), (1, t6), (2, t71)]) fun t72 =>
  opt2 (bsliceX 3 (.agg [(.lit (.int .i64 0)), (.lit (.int .i64 0)), (.lit (.string ⟨⟨[]⟩⟩))]) 1 [(0, t72)] h) fun t73 h1 =>
  opt2 (appendX 3 32 t5 t73 h1) fun t74 h2 =>
  r1 t0 t74 t12 h2

theorem TS25_5 (call : CallF) (r1 : AV → AV → AV → Heap → Res) : (rk Try.prog call 147 (Code.snd (Code.snd (Code.els (Code.snd (Code.els (Code.snd (Code.els (Code.snd (Code.els (Code.snd (Code.els (Code.snd (Code.els (Code.snd (Code.bd (Code.snd (Code.bd (Code.snd (Code.bd (Code.bd (Code.snd (Code.fst (Code.snd (Code.snd (Code.snd c25)))))))))))))))))))))))))).1 (fun s h => r1 (s.rd 0) (s.rd 5) (s.rd 6) h) [(2, (fun s h => r1 (s.rd 0) (s.rd 5) (s.rd 6) h)), (1, (fun s h => r1 (s.rd 0) (s.rd 5) (s.rd 6) h)), (0, (fun s h => S25_0 call (s.rd 5) h))] (finK Try.prog Try.f25.results.toList) (fun _ => stuckK) = fun s h => S25_5 call r1 (s.rd 0) (s.rd 5) (s.rd 6) (s.rd 12) h := by funext s h; kernel_rfl

noncomputable def S25_7 (call : CallF) (r1 : AV → AV → AV → Heap → Res) (r6 : AV → AV → AV → AV → Heap → Res) (t0 : AV) (t5 : AV) (t6 : AV) (t12 : AV) (h : Heap) : Res :=
  opt (fastBin .add t12 (.lit (.int .i64 1))) fun t65 =>
  r6 t0 t5 t6 t65 h

theorem TS25_7 (call : CallF) (r1 : AV → AV → AV → Heap → Res) (r6 : AV → AV → AV → AV → Heap → Res) : (rk Try.prog call 147 (Code.snd (Code.bd (Code.bd (Code.fst (Code.snd (Code.els (Code.snd (Code.els (Code.snd (Code.els (Code.snd (Code.els (Code.snd (Code.els (Code.snd (Code.els (Code.snd (Code.bd (Code.snd (Code.bd (Code.snd (Code.bd (Code.bd (Code.snd (Code.fst (Code.snd (Code.snd (Code.snd c25))))))))))))))))))))))))))))).1 (fun s h => r6 (s.rd 0) (s.rd 5) (s.rd 6) (s.rd 12) h) [(3, (fun s h => S25_5 call r1 (s.rd 0) (s.rd 5) (s.rd 6) (s.rd 12) h)), (2, (fun s h => r1 (s.rd 0) (s.rd 5) (s.rd 6) h)), (1, (fun s h => r1 (s.rd 0) (s.rd 5) (s.rd 6) h)), (0, (fun s h => S25_0 call (s.rd 5) h))] (finK Try.prog Try.f25.results.toList) (fun _ => stuckK) = fun s h => S25_7 call r1 r6 (s.rd 0) (s.rd 5) (s.rd 6) (s.rd 12) h := by funext s h; kernel_rfl

noncomputable def S25_8b (call : CallF) (r1 : AV → AV → AV → Heap → Res) (r6 : AV → AV → AV → AV → Heap → Res) (t0 : AV) (t5 : AV) (t6 : AV) (t12 : AV) (h : Heap) : Res :=
  opt (lenStr t0) fun t26 =>
  opt (fastBin .lss t12 t26) fun t27 =>
  test t27
  (opt (fastIndex t0 t12) fun t31 =>
  opt (fastBin .geq t31 (.lit (.int .u8 33))) fun t32 =>
  test t32
  (opt (fastIndex t0 t12) fun t37 =>
  opt (fastBin .leq t37 (.lit (.int .u8 126))) fun t38 =>
  test t38
  (opt (fastIndex t0 t12) fun t43 =>
  opt (fastBin .neq t43 (.lit (.int .u8 59))) fun t44 =>
  test t44
  (opt (fastIndex t0 t12) fun t49 =>
  opt (fastBin .neq t49 (.lit (.int .u8 40))) fun t50 =>
  test t50
  (opt (fastIndex t0 t12) fun t55 =>
  opt (fastBin .neq t55 (.lit (.int .u8 41))) fun t56 =>
  test t56
  (opt (fastIndex t0 t12) fun t61 =>
  opt (fastBin .neq t61 (.lit (.int .u8 34))) fun t62 =>
  test t62
  (S25_7 call r1 r6 t0 t5 t6 t12 h)
  (S25_5 call r1 t0 t5 t6 t12 h))
  (S25_5 call r1 t0 t5 t6 t12 h))
  (S25_5 call r1 t0 t5 t6 t12 h))
  (S25_5 call r1 t0 t5 t6 t12 h))
  (S25_5 call r1 t0 t5 t6 t12 h))
  (S25_5 call r1 t0 t5 t6 t12 h))
  (S25_5 call r1 t0 t5 t6 t12 h)

theorem TS25_8b (call : CallF) (r1 : AV → AV → AV → Heap → Res) (r6 : AV → AV → AV → AV → Heap → Res) : (rk Try.prog call 147 (Code.bd (Code.bd (Code.fst (Code.snd (Code.els (Code.snd (Code.els (Code.snd (Code.els (Code.snd (Code.els (Code.snd (Code.els (Code.snd (Code.els (Code.snd (Code.bd (Code.snd (Code.bd (Code.snd (Code.bd (Code.bd (Code.snd (Code.fst (Code.snd (Code.snd (Code.snd c25)))))))))))))))))))))))))))).1 (fun s h => r6 (s.rd 0) (s.rd 5) (s.rd 6) (s.rd 12) h) [(3, (fun s h => S25_5 call r1 (s.rd 0) (s.rd 5) (s.rd 6) (s.rd 12) h)), (2, (fun s h => r1 (s.rd 0) (s.rd 5) (s.rd 6) h)), (1, (fun s h => r1 (s.rd 0) (s.rd 5) (s.rd 6) h)), (0, (fun s h => S25_0 call (s.rd 5) h))] (finK Try.prog Try.f25.results.toList) (fun _ => stuckK) = fun s h => S25_8b call r1 r6 (s.rd 0) (s.rd 5) (s.rd 6) (s.rd 12) h := Eq.trans (seq_t (by kernel_rfl) (TS25_7 call r1 r6) rfl) (by funext s h; kernel_rfl)

noncomputable def S25_6l (call : CallF) (r1 : AV → AV → AV → Heap → Res) : Nat → AV → AV → AV → AV → Heap → Res
  | 0 => fun _ _ _ _ _ => none
  | k + 1 => S25_8b call r1 (S25_6l call r1 k)

theorem TS25_6l (call : CallF) (r1 : AV → AV → AV → Heap → Res) : (rk Try.prog call 147 (Code.bd (Code.fst (Code.snd (Code.els (Code.snd (Code.els (Code.snd (Code.els (Code.snd (Code.els (Code.snd (Code.els (Code.snd (Code.els (Code.snd (Code.bd (Code.snd (Code.bd (Code.snd (Code.bd (Code.bd (Code.snd (Code.fst (Code.snd (Code.snd (Code.snd c25))))))))))))))))))))))))))).1 (fun s h => S25_5 call r1 (s.rd 0) (s.rd 5) (s.rd 6) (s.rd 12) h) [(3, (fun s h => S25_5 call r1 (s.rd 0) (s.rd 5) (s.rd 6) (s.rd 12) h)), (2, (fun s h => r1 (s.rd 0) (s.rd 5) (s.rd 6) h)), (1, (fun s h => r1 (s.rd 0) (s.rd 5) (s.rd 6) h)), (0, (fun s h => S25_0 call (s.rd 5) h))] (finK Try.prog Try.f25.results.toList) (fun _ => stuckK) = fun s h => S25_6l call r1 rounds (s.rd 0) (s.rd 5) (s.rd 6) (s.rd 12) h :=
  loop_t (by kernel_rfl) (loop_ind (A := fun m => fun s h => S25_6l call r1 m (s.rd 0) (s.rd 5) (s.rd 6) (s.rd 12) h) rfl (fun m => TS25_8b call r1 (S25_6l call r1 m)) rounds)

noncomputable def S25_9 (call : CallF) (r1 : AV → AV → AV → Heap → Res) (t0 : AV) (t5 : AV) (t6 : AV) (t12 : AV) (h : Heap) : Res :=
  S25_6l call r1 rounds t0 t5 t6 t12 h

theorem TS25_9 (call : CallF) (r1 : AV → AV → AV → Heap → Res) : (rk Try.prog call 147 (Code.snd (Code.els (Code.snd (Code.els (Code.snd (Code.els (Code.snd (Code.els (Code.snd (Code.els (Code.snd (Code.els (Code.snd (Code.bd (Code.snd (Code.bd (Code.snd (Code.bd (Code.bd (Code.snd (Code.fst (Code.snd (Code.snd (Code.snd c25))))))))))))))))))))))))).1 (fun s h => r1 (s.rd 0) (s.rd 5) (s.rd 6) h) [(2, (fun s h => r1 (s.rd 0) (s.rd 5) (s.rd 6) h)), (1, (fun s h => r1 (s.rd 0) (s.rd 5) (s.rd 6) h)), (0, (fun s h => S25_0 call (s.rd 5) h))] (finK Try.prog Try.f25.results.toList) (fun _ => stuckK) = fun s h => S25_9 call r1 (s.rd 0) (s.rd 5) (s.rd 6) (s.rd 12) h := Eq.trans (seq_t (by kernel_rfl) (TS25_5 call r1) (block_t (id := 3) (by kernel_rfl) (TS25_6l call r1))) (by funext s h; kernel_rfl)

noncomputable def S25_10 (call : CallF) (r1 : AV → AV → AV → Heap → Res) (t0 : AV) (t5 : AV) (t6 : AV) (h : Heap) : Res :=
  S25_9 call r1 t0 t5 t6 t6 h

theorem TS25_10 (call : CallF) (r1 : AV → AV → AV → Heap → Res) : (rk Try.prog call 147 (Code.els (Code.snd (Code.els (Code.snd (Code.els (Code.snd (Code.els (Code.snd (Code.els (Code.snd (Code.els (Code.snd (Code.bd (Code.snd (Code.bd (Code.snd (Code.bd (Code.bd (Code.snd (Code.fst (Code.snd (Code.snd (Code.snd c25)))))))))))))))))))))))).1 (fun s h => r1 (s.rd 0) (s.rd 5) (s.rd 6) h) [(2, (fun s h => r1 (s.rd 0) (s.rd 5) (s.rd 6) h)), (1, (fun s h => r1 (s.rd 0) (s.rd 5) (s.rd 6) h)), (0, (fun s h => S25_0 call (s.rd 5) h))] (finK Try.prog Try.f25.results.toList) (fun _ => stuckK) = fun s h => S25_10 call r1 (s.rd 0) (s.rd 5) (s.rd 6) h := Eq.trans (seq_t (by kernel_rfl) (TS25_9 call r1) rfl) (by funext s h; kernel_rfl)

noncomputable def S25_11 (call : CallF) (r1 : AV → AV → AV → Heap → Res) (t0 : AV) (t5 : AV) (t6 : AV) (t138 : AV) (h : Heap) : Res :=
  test t138
  (some ((.tup [(.lit (.slice none 0 0)), (.lit (.int .i64 12)), t6]), h))
  (S25_10 call r1 t0 t5 t6 h)

theorem TS25_11 (call : CallF) (r1 : AV → AV → AV → Heap → Res) : (rk Try.prog call 147 (Code.snd (Code.els (Code.snd (Code.els (Code.snd (Code.els (Code.snd (Code.els (Code.snd (Code.els (Code.snd (Code.bd (Code.snd (Code.bd (Code.snd (Code.bd (Code.bd (Code.snd (Code.fst (Code.snd (Code.snd (Code.snd c25))))))))))))))))))))))).1 (fun s h => r1 (s.rd 0) (s.rd 5) (s.rd 6) h) [(2, (fun s h => r1 (s.rd 0) (s.rd 5) (s.rd 6) h)), (1, (fun s h => r1 (s.rd 0) (s.rd 5) (s.rd 6) h)), (0, (fun s h => S25_0 call (s.rd 5) h))] (finK Try.prog Try.f25.results.toList) (fun _ => stuckK) = fun s h => S25_11 call r1 (s.rd 0) (s.rd 5) (s.rd 6) (s.rd 138) h := Eq.trans (cond_t (by kernel_rfl) rfl (TS25_10 call r1)) (by funext s h; kernel_rfl)

noncomputable def S25_12 (call : CallF) (r1 : AV → AV → AV → Heap → Res) (t0 : AV) (t5 : AV) (t6 : AV) (t7 : AV) (h : Heap) : Res :=
  opt (fastBin .lss t7 (.lit (.int .u8 33))) fun t140 =>
  test t140
  (S25_11 call r1 t0 t5 t6 (.lit (.bool true)) h)
  (opt (fastBin .gtr t7 (.lit (.int .u8 126))) fun t143 =>
  S25_11 call r1 t0 t5 t6 t143 h)

theorem TS25_12 (call : CallF) (r1 : AV → AV → AV → Heap → Res) : (rk Try.prog call 147 (Code.els (Code.snd (Code.els (Code.snd (Code.els (Code.snd (Code.els (Code.snd (Code.els (Code.snd (Code.bd (Code.snd (Code.bd (Code.snd (Code.bd (Code.bd (Code.snd (Code.fst (Code.snd (Code.snd (Code.snd c25)))))))))))))))))))))).1 (fun s h => r1 (s.rd 0) (s.rd 5) (s.rd 6) h) [(2, (fun s h => r1 (s.rd 0) (s.rd 5) (s.rd 6) h)), (1, (fun s h => r1 (s.rd 0) (s.rd 5) (s.rd 6) h)), (0, (fun s h => S25_0 call (s.rd 5) h))] (finK Try.prog Try.f25.results.toList) (fun _ => stuckK) = fun s h => S25_12 call r1 (s.rd 0) (s.rd 5) (s.rd 6) (s.rd 7) h := Eq.trans (seq_t (by kernel_rfl) (TS25_11 call r1) rfl) (by funext s h; kernel_rfl)

noncomputable def S25_13 (call : CallF) (r1 : AV → AV → AV → Heap → Res) (t0 : AV) (t5 : AV) (t6 : AV) (t7 : AV) (t116 : AV) (h : Heap) : Res :=
  test t116
  (opt2 (call 33 [t0, t6] h) fun t122 h1 =>
  opt (extractX t122 0) fun t123 =>
  opt (extractX t122 1) fun t124 =>
  opt (extractX t122 2) fun t125 =>
  opt (extractX t122 3) fun t126 =>
  opt (fastBin .neq t125 (.lit (.int .i64 0))) fun t128 =>
  test t128
  (some ((.tup [(.lit (.slice none 0 0)), t125, t126]), h1))
  (opt (buildX [(.lit (.int .i64 0)), (.lit (.int .i64 0)), (.lit (.string ⟨⟨[]⟩⟩))] [(0, 1), (1, 1), (2, 1)] [(0, (.lit (.int .i64 4))), (1, t6), (2, t123)]) fun t134 =>
  opt2 (bsliceX 3 (.agg [(.lit (.int .i64 0)), (.lit (.int .i64 0)), (.lit (.string ⟨⟨[]⟩⟩))]) 1 [(0, t134)] h1) fun t135 h2 =>
  opt2 (appendX 3 32 t5 t135 h2) fun t136 h3 =>
  r1 t0 t136 t124 h3))
  (S25_12 call r1 t0 t5 t6 t7 h)

theorem TS25_13 (call : CallF) (r1 : AV → AV → AV → Heap → Res) : (rk Try.prog call 147 (Code.snd (Code.els (Code.snd (Code.els (Code.snd (Code.els (Code.snd (Code.els (Code.snd (Code.bd (Code.snd (Code.bd (Code.snd (Code.bd (Code.bd (Code.snd (Code.fst (Code.snd (Code.snd (Code.snd c25))))))))))))))))))))).1 (fun s h => r1 (s.rd 0) (s.rd 5) (s.rd 6) h) [(2, (fun s h => r1 (s.rd 0) (s.rd 5) (s.rd 6) h)), (1, (fun s h => r1 (s.rd 0) (s.rd 5) (s.rd 6) h)), (0, (fun s h => S25_0 call (s.rd 5) h))] (finK Try.prog Try.f25.results.toList) (fun _ => stuckK) = fun s h => S25_13 call r1 (s.rd 0) (s.rd 5) (s.rd 6) (s.rd 7) (s.rd 116) h := Eq.trans (cond_t (by kernel_rfl) rfl (TS25_12 call r1)) (by funext s h; kernel_rfl)

noncomputable def S25_14 (call : CallF) (r1 : AV → AV → AV → Heap → Res) (t0 : AV) (t5 : AV) (t6 : AV) (t7 : AV) (h : Heap) : Res :=
  opt (fastBin .eql t7 (.lit (.int .u8 34))) fun t118 =>
  S25_13 call r1 t0 t5 t6 t7 t118 h

theorem TS25_14 (call : CallF) (r1 : AV → AV → AV → Heap → Res) : (rk Try.prog call 147 (Code.els (Code.snd (Code.els (Code.snd (Code.els (Code.snd (Code.els (Code.snd (Code.bd (Code.snd (Code.bd (Code.snd (Code.bd (Code.bd (Code.snd (Code.fst (Code.snd (Code.snd (Code.snd c25)))))))))))))))))))).1 (fun s h => r1 (s.rd 0) (s.rd 5) (s.rd 6) h) [(2, (fun s h => r1 (s.rd 0) (s.rd 5) (s.rd 6) h)), (1, (fun s h => r1 (s.rd 0) (s.rd 5) (s.rd 6) h)), (0, (fun s h => S25_0 call (s.rd 5) h))] (finK Try.prog Try.f25.results.toList) (fun _ => stuckK) = fun s h => S25_14 call r1 (s.rd 0) (s.rd 5) (s.rd 6) (s.rd 7) h := Eq.trans (seq_t (by kernel_rfl) (TS25_13 call r1) rfl) (by funext s h; kernel_rfl)

noncomputable def S25_15 (call : CallF) (r1 : AV → AV → AV → Heap → Res) (t0 : AV) (t5 : AV) (t6 : AV) (t7 : AV) (t106 : AV) (h : Heap) : Res :=
  test t106
  (opt (buildX [(.lit (.int .i64 0)), (.lit (.int .i64 0)), (.lit (.string ⟨⟨[]⟩⟩))] [(0, 1), (1, 1), (2, 1)] [(0, (.lit (.int .i64 2))), (1, t6), (2, (.lit (.string ⟨⟨[]⟩⟩)))]) fun t111 =>
  opt2 (bsliceX 3 (.agg [(.lit (.int .i64 0)), (.lit (.int .i64 0)), (.lit (.string ⟨⟨[]⟩⟩))]) 1 [(0, t111)] h) fun t112 h1 =>
  opt2 (appendX 3 32 t5 t112 h1) fun t113 h2 =>
  opt (fastBin .add t6 (.lit (.int .i64 1))) fun t115 =>
  r1 t0 t113 t115 h2)
  (S25_14 call r1 t0 t5 t6 t7 h)

theorem TS25_15 (call : CallF) (r1 : AV → AV → AV → Heap → Res) : (rk Try.prog call 147 (Code.snd (Code.els (Code.snd (Code.els (Code.snd (Code.els (Code.snd (Code.bd (Code.snd (Code.bd (Code.snd (Code.bd (Code.bd (Code.snd (Code.fst (Code.snd (Code.snd (Code.snd c25))))))))))))))))))).1 (fun s h => r1 (s.rd 0) (s.rd 5) (s.rd 6) h) [(2, (fun s h => r1 (s.rd 0) (s.rd 5) (s.rd 6) h)), (1, (fun s h => r1 (s.rd 0) (s.rd 5) (s.rd 6) h)), (0, (fun s h => S25_0 call (s.rd 5) h))] (finK Try.prog Try.f25.results.toList) (fun _ => stuckK) = fun s h => S25_15 call r1 (s.rd 0) (s.rd 5) (s.rd 6) (s.rd 7) (s.rd 106) h := Eq.trans (cond_t (by kernel_rfl) rfl (TS25_14 call r1)) (by funext s h; kernel_rfl)

noncomputable def S25_16 (call : CallF) (r1 : AV → AV → AV → Heap → Res) (t0 : AV) (t5 : AV) (t6 : AV) (t7 : AV) (h : Heap) : Res :=
  opt (fastBin .eql t7 (.lit (.int .u8 41))) fun t108 =>
  S25_15 call r1 t0 t5 t6 t7 t108 h

theorem TS25_16 (call : CallF) (r1 : AV → AV → AV → Heap → Res) : (rk Try.prog call 147 (Code.els (Code.snd (Code.els (Code.snd (Code.els (Code.snd (Code.bd (Code.snd (Code.bd (Code.snd (Code.bd (Code.bd (Code.snd (Code.fst (Code.snd (Code.snd (Code.snd c25)))))))))))))))))).1 (fun s h => r1 (s.rd 0) (s.rd 5) (s.rd 6) h) [(2, (fun s h => r1 (s.rd 0) (s.rd 5) (s.rd 6) h)), (1, (fun s h => r1 (s.rd 0) (s.rd 5) (s.rd 6) h)), (0, (fun s h => S25_0 call (s.rd 5) h))] (finK Try.prog Try.f25.results.toList) (fun _ => stuckK) = fun s h => S25_16 call r1 (s.rd 0) (s.rd 5) (s.rd 6) (s.rd 7) h := Eq.trans (seq_t (by kernel_rfl) (TS25_15 call r1) rfl) (by funext s h; kernel_rfl)

noncomputable def S25_17 (call : CallF) (r1 : AV → AV → AV → Heap → Res) (t0 : AV) (t5 : AV) (t6 : AV) (t7 : AV) (t96 : AV) (h : Heap) : Res :=
  test t96
  (opt (buildX [(.lit (.int .i64 0)), (.lit (.int .i64 0)), (.lit (.string ⟨⟨[]⟩⟩))] [(0, 1), (1, 1), (2, 1)] [(0, (.lit (.int .i64 1))), (1, t6), (2, (.lit (.string ⟨⟨[]⟩⟩)))]) fun t101 =>
  opt2 (bsliceX 3 (.agg [(.lit (.int .i64 0)), (.lit (.int .i64 0)), (.lit (.string ⟨⟨[]⟩⟩))]) 1 [(0, t101)] h) fun t102 h1 =>
  opt2 (appendX 3 32 t5 t102 h1) fun t103 h2 =>
  opt (fastBin .add t6 (.lit (.int .i64 1))) fun t105 =>
  r1 t0 t103 t105 h2)
  (S25_16 call r1 t0 t5 t6 t7 h)

theorem TS25_17 (call : CallF) (r1 : AV → AV → AV → Heap → Res) : (rk Try.prog call 147 (Code.snd (Code.els (Code.snd (Code.els (Code.snd (Code.bd (Code.snd (Code.bd (Code.snd (Code.bd (Code.bd (Code.snd (Code.fst (Code.snd (Code.snd (Code.snd c25))))))))))))))))).1 (fun s h => r1 (s.rd 0) (s.rd 5) (s.rd 6) h) [(2, (fun s h => r1 (s.rd 0) (s.rd 5) (s.rd 6) h)), (1, (fun s h => r1 (s.rd 0) (s.rd 5) (s.rd 6) h)), (0, (fun s h => S25_0 call (s.rd 5) h))] (finK Try.prog Try.f25.results.toList) (fun _ => stuckK) = fun s h => S25_17 call r1 (s.rd 0) (s.rd 5) (s.rd 6) (s.rd 7) (s.rd 96) h := Eq.trans (cond_t (by kernel_rfl) rfl (TS25_16 call r1)) (by funext s h; kernel_rfl)

noncomputable def S25_18 (call : CallF) (r1 : AV → AV → AV → Heap → Res) (t0 : AV) (t5 : AV) (t6 : AV) (h : Heap) : Res :=
  S25_2l call r1 rounds t0 t5 t6 h

theorem TS25_18 (call : CallF) (r1 : AV → AV → AV → Heap → Res) : (rk Try.prog call 147 (Code.thn (Code.snd (Code.els (Code.snd (Code.bd (Code.snd (Code.bd (Code.snd (Code.bd (Code.bd (Code.snd (Code.fst (Code.snd (Code.snd (Code.snd c25)))))))))))))))).1 (fun s h => r1 (s.rd 0) (s.rd 5) (s.rd 6) h) [(2, (fun s h => r1 (s.rd 0) (s.rd 5) (s.rd 6) h)), (1, (fun s h => r1 (s.rd 0) (s.rd 5) (s.rd 6) h)), (0, (fun s h => S25_0 call (s.rd 5) h))] (finK Try.prog Try.f25.results.toList) (fun _ => stuckK) = fun s h => S25_18 call r1 (s.rd 0) (s.rd 5) (s.rd 6) h := Eq.trans (block_t (id := 5) (by kernel_rfl) (TS25_2l call r1)) (by funext s h; kernel_rfl)

noncomputable def S25_19 (call : CallF) (r1 : AV → AV → AV → Heap → Res) (t0 : AV) (t5 : AV) (t6 : AV) (t7 : AV) (h : Heap) : Res :=
  opt (fastBin .eql t7 (.lit (.int .u8 40))) fun t98 =>
  S25_17 call r1 t0 t5 t6 t7 t98 h

theorem TS25_19 (call : CallF) (r1 : AV → AV → AV → Heap → Res) : (rk Try.prog call 147 (Code.els (Code.snd (Code.els (Code.snd (Code.bd (Code.snd (Code.bd (Code.snd (Code.bd (Code.bd (Code.snd (Code.fst (Code.snd (Code.snd (Code.snd c25)))))))))))))))).1 (fun s h => r1 (s.rd 0) (s.rd 5) (s.rd 6) h) [(2, (fun s h => r1 (s.rd 0) (s.rd 5) (s.rd 6) h)), (1, (fun s h => r1 (s.rd 0) (s.rd 5) (s.rd 6) h)), (0, (fun s h => S25_0 call (s.rd 5) h))] (finK Try.prog Try.f25.results.toList) (fun _ => stuckK) = fun s h => S25_19 call r1 (s.rd 0) (s.rd 5) (s.rd 6) (s.rd 7) h := Eq.trans (seq_t (by kernel_rfl) (TS25_17 call r1) rfl) (by funext s h; kernel_rfl)

noncomputable def S25_20 (call : CallF) (r1 : AV → AV → AV → Heap → Res) (t0 : AV) (t5 : AV) (t6 : AV) (t7 : AV) (t81 : AV) (h : Heap) : Res :=
  test t81
  (S25_18 call r1 t0 t5 t6 h)
  (S25_19 call r1 t0 t5 t6 t7 h)

theorem TS25_20 (call : CallF) (r1 : AV → AV → AV → Heap → Res) : (rk Try.prog call 147 (Code.snd (Code.els (Code.snd (Code.bd (Code.snd (Code.bd (Code.snd (Code.bd (Code.bd (Code.snd (Code.fst (Code.snd (Code.snd (Code.snd c25))))))))))))))).1 (fun s h => r1 (s.rd 0) (s.rd 5) (s.rd 6) h) [(2, (fun s h => r1 (s.rd 0) (s.rd 5) (s.rd 6) h)), (1, (fun s h => r1 (s.rd 0) (s.rd 5) (s.rd 6) h)), (0, (fun s h => S25_0 call (s.rd 5) h))] (finK Try.prog Try.f25.results.toList) (fun _ => stuckK) = fun s h => S25_20 call r1 (s.rd 0) (s.rd 5) (s.rd 6) (s.rd 7) (s.rd 81) h := Eq.trans (cond_t (by kernel_rfl) (TS25_18 call r1) (TS25_19 call r1)) (by funext s h; kernel_rfl)

noncomputable def S25_21 (call : CallF) (r1 : AV → AV → AV → Heap → Res) (t0 : AV) (t5 : AV) (t6 : AV) (t7 : AV) (h : Heap) : Res :=
  opt (fastBin .eql t7 (.lit (.int .u8 59))) fun t83 =>
  S25_20 call r1 t0 t5 t6 t7 t83 h

theorem TS25_21 (call : CallF) (r1 : AV → AV → AV → Heap → Res) : (rk Try.prog call 147 (Code.els (Code.snd (Code.bd (Code.snd (Code.bd (Code.snd (Code.bd (Code.bd (Code.snd (Code.fst (Code.snd (Code.snd (Code.snd c25)))))))))))))).1 (fun s h => r1 (s.rd 0) (s.rd 5) (s.rd 6) h) [(2, (fun s h => r1 (s.rd 0) (s.rd 5) (s.rd 6) h)), (1, (fun s h => r1 (s.rd 0) (s.rd 5) (s.rd 6) h)), (0, (fun s h => S25_0 call (s.rd 5) h))] (finK Try.prog Try.f25.results.toList) (fun _ => stuckK) = fun s h => S25_21 call r1 (s.rd 0) (s.rd 5) (s.rd 6) (s.rd 7) h := Eq.trans (seq_t (by kernel_rfl) (TS25_20 call r1) rfl) (by funext s h; kernel_rfl)

noncomputable def S25_22 (call : CallF) (r1 : AV → AV → AV → Heap → Res) (t0 : AV) (t5 : AV) (t6 : AV) (t7 : AV) (t76 : AV) (h : Heap) : Res :=
  test t76
  (opt (fastBin .add t6 (.lit (.int .i64 1))) fun t80 =>
  r1 t0 t5 t80 h)
  (S25_21 call r1 t0 t5 t6 t7 h)

theorem TS25_22 (call : CallF) (r1 : AV → AV → AV → Heap → Res) : (rk Try.prog call 147 (Code.snd (Code.bd (Code.snd (Code.bd (Code.snd (Code.bd (Code.bd (Code.snd (Code.fst (Code.snd (Code.snd (Code.snd c25))))))))))))).1 (fun s h => r1 (s.rd 0) (s.rd 5) (s.rd 6) h) [(2, (fun s h => r1 (s.rd 0) (s.rd 5) (s.rd 6) h)), (1, (fun s h => r1 (s.rd 0) (s.rd 5) (s.rd 6) h)), (0, (fun s h => S25_0 call (s.rd 5) h))] (finK Try.prog Try.f25.results.toList) (fun _ => stuckK) = fun s h => S25_22 call r1 (s.rd 0) (s.rd 5) (s.rd 6) (s.rd 7) (s.rd 76) h := Eq.trans (cond_t (by kernel_rfl) rfl (TS25_21 call r1)) (by funext s h; kernel_rfl)

noncomputable def S25_23 (call : CallF) (r1 : AV → AV → AV → Heap → Res) (t0 : AV) (t5 : AV) (t6 : AV) (t7 : AV) (h : Heap) : Res :=
  opt2 (call 32 [t7] h) fun t78 h1 =>
  S25_22 call r1 t0 t5 t6 t7 t78 h1

theorem TS25_23 (call : CallF) (r1 : AV → AV → AV → Heap → Res) : (rk Try.prog call 147 (Code.snd (Code.bd (Code.snd (Code.bd (Code.bd (Code.snd (Code.fst (Code.snd (Code.snd (Code.snd c25))))))))))).1 (fun s h => r1 (s.rd 0) (s.rd 5) (s.rd 6) h) [(1, (fun s h => r1 (s.rd 0) (s.rd 5) (s.rd 6) h)), (0, (fun s h => S25_0 call (s.rd 5) h))] (finK Try.prog Try.f25.results.toList) (fun _ => stuckK) = fun s h => S25_23 call r1 (s.rd 0) (s.rd 5) (s.rd 6) (s.rd 7) h := Eq.trans (block_t (id := 2) (by kernel_rfl) (seq_t (by kernel_rfl) (TS25_22 call r1) rfl)) (by funext s h; kernel_rfl)

noncomputable def S25_24 (call : CallF) (r1 : AV → AV → AV → Heap → Res) (t0 : AV) (t5 : AV) (t6 : AV) (h : Heap) : Res :=
  opt (fastIndex t0 t6) fun t22 =>
  S25_23 call r1 t0 t5 t6 t22 h

theorem TS25_24 (call : CallF) (r1 : AV → AV → AV → Heap → Res) : (rk Try.prog call 147 (Code.snd (Code.bd (Code.bd (Code.snd (Code.fst (Code.snd (Code.snd (Code.snd c25))))))))).1 (fun s h => r1 (s.rd 0) (s.rd 5) (s.rd 6) h) [(0, (fun s h => S25_0 call (s.rd 5) h))] (finK Try.prog Try.f25.results.toList) (fun _ => stuckK) = fun s h => S25_24 call r1 (s.rd 0) (s.rd 5) (s.rd 6) h := Eq.trans (block_t (id := 1) (by kernel_rfl) (seq_t (by kernel_rfl) (TS25_23 call r1) rfl)) (by funext s h; kernel_rfl)

noncomputable def S25_25b (call : CallF) (r1 : AV → AV → AV → Heap → Res) (t0 : AV) (t5 : AV) (t6 : AV) (h : Heap) : Res :=
  opt (lenStr t0) fun t18 =>
  opt (fastBin .lss t6 t18) fun t19 =>
  test t19
  (S25_24 call r1 t0 t5 t6 h)
  (S25_0 call t5 h)

theorem TS25_25b (call : CallF) (r1 : AV → AV → AV → Heap → Res) : (rk Try.prog call 147 (Code.bd (Code.bd (Code.snd (Code.fst (Code.snd (Code.snd (Code.snd c25)))))))).1 (fun s h => r1 (s.rd 0) (s.rd 5) (s.rd 6) h) [(0, (fun s h => S25_0 call (s.rd 5) h))] (finK Try.prog Try.f25.results.toList) (fun _ => stuckK) = fun s h => S25_25b call r1 (s.rd 0) (s.rd 5) (s.rd 6) h := Eq.trans (seq_t (by kernel_rfl) (TS25_24 call r1) rfl) (by funext s h; kernel_rfl)

noncomputable def S25_1l (call : CallF) : Nat → AV → AV → AV → Heap → Res
  | 0 => fun _ _ _ _ => none
  | k + 1 => S25_25b call (S25_1l call k)

theorem TS25_1l (call : CallF) : (rk Try.prog call 147 (Code.bd (Code.snd (Code.fst (Code.snd (Code.snd (Code.snd c25))))))).1 (fun s h => S25_0 call (s.rd 5) h) [(0, (fun s h => S25_0 call (s.rd 5) h))] (finK Try.prog Try.f25.results.toList) (fun _ => stuckK) = fun s h => S25_1l call rounds (s.rd 0) (s.rd 5) (s.rd 6) h :=
  loop_t (by kernel_rfl) (loop_ind (A := fun m => fun s h => S25_1l call m (s.rd 0) (s.rd 5) (s.rd 6) h) rfl (fun m => TS25_25b call (S25_1l call m)) rounds)

noncomputable def S25_26 (call : CallF) (t0 : AV) (t5 : AV) (t6 : AV) (h : Heap) : Res :=
  S25_1l call rounds t0 t5 t6 h

theorem TS25_26 (call : CallF) : (rk Try.prog call 147 (Code.snd (Code.fst (Code.snd (Code.snd (Code.snd c25)))))).1 (fun s h => S25_0 call (s.rd 5) h) [] (finK Try.prog Try.f25.results.toList) (fun _ => stuckK) = fun s h => S25_26 call (s.rd 0) (s.rd 5) (s.rd 6) h := Eq.trans (block_t (id := 0) (by kernel_rfl) (TS25_1l call)) (by funext s h; kernel_rfl)

noncomputable def S25_27 (call : CallF) (t0 : AV) (t5 : AV) (h : Heap) : Res :=
  S25_26 call t0 t5 (.lit (.int .i64 0)) h

theorem TS25_27 (call : CallF) : (rk Try.prog call 147 (Code.snd (Code.snd (Code.snd c25)))).1 (finK Try.prog Try.f25.results.toList) [] (finK Try.prog Try.f25.results.toList) (fun _ => stuckK) = fun s h => S25_27 call (s.rd 0) (s.rd 5) h := Eq.trans (seq_t (by kernel_rfl) (TS25_0 call) (seq_t (by kernel_rfl) (TS25_26 call) rfl)) (by funext s h; kernel_rfl)

noncomputable def S25_28 (call : CallF) (t0 : AV) (h : Heap) : Res :=
  S25_27 call t0 (.lit (.slice none 0 0)) h

theorem TS25_28 (call : CallF) : (rk Try.prog call 147 (Code.snd (Code.snd c25))).1 (finK Try.prog Try.f25.results.toList) [] (finK Try.prog Try.f25.results.toList) (fun _ => stuckK) = fun s h => S25_28 call (s.rd 0) h := Eq.trans (seq_t (by kernel_rfl) (TS25_27 call) rfl) (by funext s h; kernel_rfl)

noncomputable def S25_29 (call : CallF) (t0 : AV) (h : Heap) : Res :=
  opt (lenStr t0) fun t14 =>
  opt (fastBin .gtr t14 (.lit (.int .i64 8192))) fun t15 =>
  test t15
  (some ((.tup [(.lit (.slice none 0 0)), (.lit (.int .i64 3)), (.lit (.int .i64 0))]), h))
  (S25_28 call t0 h)

theorem TS25_29 (call : CallF) : (rk Try.prog call 147 (Code.snd c25)).1 (finK Try.prog Try.f25.results.toList) [] (finK Try.prog Try.f25.results.toList) (fun _ => stuckK) = fun s h => S25_29 call (s.rd 0) h := Eq.trans (seq_t (by kernel_rfl) (TS25_28 call) rfl) (by funext s h; kernel_rfl)

/-- hawser/hawserref3.Split -/
noncomputable def F25 (call : CallF) (a0 : AV) (h : Heap) : Res :=
  S25_29 call a0 h

theorem TF25 (call : CallF) (a0 : AV) (h : Heap) : (rk Try.prog call 147 c25).1 (finK Try.prog Try.f25.results.toList) [] (finK Try.prog Try.f25.results.toList) (fun _ => stuckK) (argsTr gl 0 [a0]) h = F25 call a0 h := Eq.trans (congrFun (congrFun (seq_t (by kernel_rfl) (TS25_29 call) rfl) _) _) (by kernel_rfl)

noncomputable def N25 : FnF
  | call, [a0], h => F25 call a0 h
  | _, _, _ => none

theorem N25_ok : FnOk Try.prog gl 25 N25 := FnOk.of namesOk mixedOrders lowOk Try.func25 (by kernel_rfl) fun call args h r hF => by
  unfold N25 at hF
  split at hF
  · rw [← hF, ← TF25]; exact bodyK_at (by kernel_rfl) (by kernel_rfl) rfl rfl
  · cases hF

noncomputable def c26 : Code := codeOf Try.f26

noncomputable def S26_0 (call : CallF) (t2 : AV) (t4 : AV) (t5 : AV) (h : Heap) : Res :=
  opt (loadX (some 4) t4 h) fun t47 =>
  opt (fastBin .add t5 (.lit (.int .i64 1))) fun t49 =>
  optH (storeX 4 t2 t47 h) fun h1 =>
  opt (loadX (some 4) t2 h1) fun res =>
  some ((.tup [res, t49]), h1)

theorem TS26_0 (call : CallF) : (rk Try.prog call 50 (Code.snd (Code.snd (Code.snd (Code.snd (Code.snd c26)))))).1 (finK Try.prog Try.f26.results.toList) [] (finK Try.prog Try.f26.results.toList) (fun _ => stuckK) = fun s h => S26_0 call (s.rd 2) (s.rd 4) (s.rd 5) h := by funext s h; kernel_rfl

noncomputable def S26_2b (call : CallF) (r1 : AV → AV → AV → AV → Heap → Res) (t0 : AV) (t2 : AV) (t4 : AV) (t5 : AV) (h : Heap) : Res :=
  opt (indexAddrS 3 t0 t5 h) fun t27 =>
  opt (fieldAddrX 0 t27) fun t28 =>
  opt (loadX none t28 h) fun t29 =>
  opt (fastBin .neq t29 (.lit (.int .i64 2))) fun t30 =>
  test t30
  (opt (cutX 3 t0 (some t5) none none h) fun t34 =>
  opt2 (call 26 [t34] h) fun t35 h1 =>
  opt (extractX t35 0) fun t36 =>
  opt (extractX t35 1) fun t37 =>
  opt2 (box (.agg [(.lit (.int .i64 0)), (.lit (.int .i64 0)), (.lit (.string ⟨⟨[]⟩⟩)), (.lit (.slice none 0 0))]) h1) fun t6 h2 =>
  optH (storeX 4 t6 t36 h2) fun h3 =>
  opt (fieldAddrX 3 t4) fun t38 =>
  opt (loadX none t38 h3) fun t39 =>
  opt (loadX (some 4) t6 h3) fun t40 =>
  opt2 (bsliceX 4 (.agg [(.lit (.int .i64 0)), (.lit (.int .i64 0)), (.lit (.string ⟨⟨[]⟩⟩)), (.lit (.slice none 0 0))]) 1 [(0, t40)] h3) fun t41 h4 =>
  opt2 (appendX 4 56 t39 t41 h4) fun t42 h5 =>
  opt (fieldAddrX 3 t4) fun t43 =>
  optH (storeX 1 t43 t42 h5) fun h6 =>
  opt (fastBin .add t5 t37) fun t46 =>
  r1 t0 t2 t4 t46 h6)
  (S26_0 call t2 t4 t5 h)

theorem TS26_2b (call : CallF) (r1 : AV → AV → AV → AV → Heap → Res) : (rk Try.prog call 50 (Code.bd (Code.bd (Code.fst (Code.snd (Code.snd (Code.snd (Code.snd c26)))))))).1 (fun s h => r1 (s.rd 0) (s.rd 2) (s.rd 4) (s.rd 5) h) [(0, (fun s h => S26_0 call (s.rd 2) (s.rd 4) (s.rd 5) h))] (finK Try.prog Try.f26.results.toList) (fun _ => stuckK) = fun s h => S26_2b call r1 (s.rd 0) (s.rd 2) (s.rd 4) (s.rd 5) h := by funext s h; kernel_rfl

noncomputable def S26_1l (call : CallF) : Nat → AV → AV → AV → AV → Heap → Res
  | 0 => fun _ _ _ _ _ => none
  | k + 1 => S26_2b call (S26_1l call k)

theorem TS26_1l (call : CallF) : (rk Try.prog call 50 (Code.bd (Code.fst (Code.snd (Code.snd (Code.snd (Code.snd c26))))))).1 (fun s h => S26_0 call (s.rd 2) (s.rd 4) (s.rd 5) h) [(0, (fun s h => S26_0 call (s.rd 2) (s.rd 4) (s.rd 5) h))] (finK Try.prog Try.f26.results.toList) (fun _ => stuckK) = fun s h => S26_1l call rounds (s.rd 0) (s.rd 2) (s.rd 4) (s.rd 5) h :=
  loop_t (by kernel_rfl) (loop_ind (A := fun m => fun s h => S26_1l call m (s.rd 0) (s.rd 2) (s.rd 4) (s.rd 5) h) rfl (fun m => TS26_2b call (S26_1l call m)) rounds)

noncomputable def S26_3 (call : CallF) (t0 : AV) (t2 : AV) (t4 : AV) (t5 : AV) (h : Heap) : Res :=
  S26_1l call rounds t0 t2 t4 t5 h

theorem TS26_3 (call : CallF) : (rk Try.prog call 50 (Code.snd (Code.snd (Code.snd (Code.snd c26))))).1 (finK Try.prog Try.f26.results.toList) [] (finK Try.prog Try.f26.results.toList) (fun _ => stuckK) = fun s h => S26_3 call (s.rd 0) (s.rd 2) (s.rd 4) (s.rd 5) h := Eq.trans (seq_t (by kernel_rfl) (TS26_0 call) (block_t (id := 0) (by kernel_rfl) (TS26_1l call))) (by funext s h; kernel_rfl)

noncomputable def S26_4 (call : CallF) (t0 : AV) (t2 : AV) (t4 : AV) (h : Heap) : Res :=
  S26_3 call t0 t2 t4 (.lit (.int .i64 1)) h

theorem TS26_4 (call : CallF) : (rk Try.prog call 50 (Code.snd (Code.snd (Code.snd c26)))).1 (finK Try.prog Try.f26.results.toList) [] (finK Try.prog Try.f26.results.toList) (fun _ => stuckK) = fun s h => S26_4 call (s.rd 0) (s.rd 2) (s.rd 4) h := Eq.trans (seq_t (by kernel_rfl) (TS26_3 call) rfl) (by funext s h; kernel_rfl)

noncomputable def S26_5 (call : CallF) (t0 : AV) (t2 : AV) (t4 : AV) (h : Heap) : Res :=
  opt (fieldAddrX 0 t4) fun t21 =>
  opt (loadX none t21 h) fun t22 =>
  opt (fastBin .neq t22 (.lit (.int .i64 1))) fun t23 =>
  test t23
  (opt (loadX (some 4) t4 h) fun t24 =>
  optH (storeX 4 t2 t24 h) fun h1 =>
  opt (loadX (some 4) t2 h1) fun res =>
  some ((.tup [res, (.lit (.int .i64 1))]), h1))
  (S26_4 call t0 t2 t4 h)

theorem TS26_5 (call : CallF) : (rk Try.prog call 50 (Code.snd (Code.snd c26))).1 (finK Try.prog Try.f26.results.toList) [] (finK Try.prog Try.f26.results.toList) (fun _ => stuckK) = fun s h => S26_5 call (s.rd 0) (s.rd 2) (s.rd 4) h := Eq.trans (seq_t (by kernel_rfl) (TS26_4 call) rfl) (by funext s h; kernel_rfl)

noncomputable def S26_6 (call : CallF) (t0 : AV) (t2 : AV) (h : Heap) : Res :=
  opt (indexAddrS 3 t0 (.lit (.int .i64 0)) h) fun t9 =>
  eqH h h (
  opt (fieldAddrX 0 t9) fun t10 =>
  opt (loadX none t10 h) fun t11 =>
  eqH h h (
  opt (indexAddrS 3 t0 (.lit (.int .i64 0)) h) fun t13 =>
  eqH h h (
  opt (fieldAddrX 1 t13) fun t14 =>
  opt (loadX none t14 h) fun t15 =>
  eqH h h (
  opt (indexAddrS 3 t0 (.lit (.int .i64 0)) h) fun t17 =>
  eqH h h (
  opt (fieldAddrX 2 t17) fun t18 =>
  opt (loadX none t18 h) fun t19 =>
  eqH h h (
  opt (buildX [(.lit (.int .i64 0)), (.lit (.int .i64 0)), (.lit (.string ⟨⟨[]⟩⟩)), (.lit (.slice none 0 0))] [(0, 1), (1, 1), (2, 1), (3, 1)] [(0, t11), (1, t15), (2, t19)]) fun t20 =>
  opt2 (box (.agg [(.lit (.int .i64 0)), (.lit (.int .i64 0)), (.lit (.string ⟨⟨[]⟩⟩)), (.lit (.slice none 0 0))]) h) fun t4 h1 =>
  opt (loadX none t18 h1) fun t19_1 =>
  eqK t19_1 t19 (eqH h1 h1 (
  opt (indexAddrS 3 t0 (.lit (.int .i64 0)) h1) fun t17_1 =>
  eqK t17_1 t17 (eqH h1 h1 (
  opt (loadX none t14 h1) fun t15_1 =>
  eqK t15_1 t15 (eqH h1 h1 (
  opt (indexAddrS 3 t0 (.lit (.int .i64 0)) h1) fun t13_1 =>
  eqK t13_1 t13 (eqH h1 h1 (
  opt (loadX none t10 h1) fun t11_1 =>
  eqK t11_1 t11 (eqH h1 h1 (
  opt (indexAddrS 3 t0 (.lit (.int .i64 0)) h1) fun t9_1 =>
  eqK t9_1 t9 (eqH h1 h1 (
  optH (storeX 4 t4 t20 h1) fun h2 =>
  S26_5 call t0 t2 t4 h2))))))))))))))))))

theorem TS26_6 (call : CallF) : (rk Try.prog call 50 (Code.snd c26)).1 (finK Try.prog Try.f26.results.toList) [] (finK Try.prog Try.f26.results.toList) (fun _ => stuckK) = fun s h => S26_6 call (s.rd 0) (s.rd 2) h := Eq.trans (seq_t (by kernel_rfl) (TS26_5 call) rfl) (by funext s h; kernel_rfl)

/-- hawser/hawserref4.one -/
noncomputable def F26 (call : CallF) (a0 : AV) (h : Heap) : Res :=
  opt2 (box (.agg [(.lit (.int .i64 0)), (.lit (.int .i64 0)), (.lit (.string ⟨⟨[]⟩⟩)), (.lit (.slice none 0 0))]) h) fun t2 h1 =>
  S26_6 call a0 t2 h1

theorem TF26 (call : CallF) (a0 : AV) (h : Heap) : (rk Try.prog call 50 c26).1 (finK Try.prog Try.f26.results.toList) [] (finK Try.prog Try.f26.results.toList) (fun _ => stuckK) (argsTr gl 0 [a0]) h = F26 call a0 h := Eq.trans (congrFun (congrFun (seq_t (by kernel_rfl) (TS26_6 call) rfl) _) _) (by kernel_rfl)

noncomputable def N26 : FnF
  | call, [a0], h => F26 call a0 h
  | _, _, _ => none

theorem N26_ok : FnOk Try.prog gl 26 N26 := FnOk.of namesOk mixedOrders lowOk Try.func26 (by kernel_rfl) fun call args h r hF => by
  unfold N26 at hF
  split at hF
  · rw [← hF, ← TF26]; exact bodyK_at (by kernel_rfl) (by kernel_rfl) rfl rfl
  · cases hF

noncomputable def c27 : Code := codeOf Try.f27

noncomputable def S27_0 (call : CallF) (t3 : AV) (h : Heap) : Res :=
  opt (fastBin .add t3 (.lit (.string ⟨⟨[34]⟩⟩))) fun t66 =>
  some (t66, h)

theorem TS27_0 (call : CallF) : (rk Try.prog call 67 (Code.snd (Code.snd (Code.snd c27)))).1 (finK Try.prog Try.f27.results.toList) [] (finK Try.prog Try.f27.results.toList) (fun _ => stuckK) = fun s h => S27_0 call (s.rd 3) h := by funext s h; kernel_rfl

noncomputable def S27_2 (call : CallF) (r1 : AV → AV → AV → Heap → Res) (t0 : AV) (t3 : AV) (t4 : AV) (h : Heap) : Res :=
  opt (fastBin .add t4 (.lit (.int .i64 1))) fun t11 =>
  r1 t0 t3 t11 h

theorem TS27_2 (call : CallF) (r1 : AV → AV → AV → Heap → Res) : (rk Try.prog call 67 (Code.snd (Code.snd (Code.bd (Code.bd (Code.snd (Code.fst (Code.snd (Code.snd c27))))))))).1 (fun s h => r1 (s.rd 0) (s.rd 3) (s.rd 4) h) [(0, (fun s h => S27_0 call (s.rd 3) h))] (finK Try.prog Try.f27.results.toList) (fun _ => stuckK) = fun s h => S27_2 call r1 (s.rd 0) (s.rd 3) (s.rd 4) h := by funext s h; kernel_rfl

noncomputable def S27_3 (call : CallF) (r1 : AV → AV → AV → Heap → Res) (t0 : AV) (t3 : AV) (t4 : AV) (t5 : AV) (t46 : AV) (h : Heap) : Res :=
  test t46
  (opt (fastBin .add t4 (.lit (.int .i64 1))) fun t57 =>
  opt (fastCut t0 (some t4) (some t57) none) fun t58 =>
  opt (fastBin .add t3 t58) fun t59 =>
  S27_2 call r1 t0 t59 t4 h)
  (opt (fastBin .eql t5 (.lit (.int .u8 10))) fun t62 =>
  test t62
  (opt (fastBin .add t3 (.lit (.string ⟨⟨[92, 110]⟩⟩))) fun t64 =>
  S27_2 call r1 t0 t64 t4 h)
  (opt (fastBin .add t3 (.lit (.string ⟨⟨[92, 120]⟩⟩))) fun t16 =>
  opt (binX Try.prog .none .shr 5 t5 (.lit (.int .u64 4))) fun t18 =>
  opt (binX Try.prog .none .shr 5 t5 (.lit (.int .u64 4))) fun t20 =>
  opt (fastBin .add t20 (.lit (.int .u8 1))) fun t21 =>
  opt (fastCut (.lit (.string ⟨⟨[48, 49, 50, 51, 52, 53, 54, 55, 56, 57, 97, 98, 99, 100, 101, 102]⟩⟩)) (some t18) (some t21) none) fun t22 =>
  eqH h h (
  opt (fastBin .add t16 t22) fun t23 =>
  opt (binX Try.prog .none .and 5 t5 (.lit (.int .u8 15))) fun t25 =>
  opt (binX Try.prog .none .and 5 t5 (.lit (.int .u8 15))) fun t27 =>
  opt (fastBin .add t27 (.lit (.int .u8 1))) fun t28 =>
  opt (fastCut (.lit (.string ⟨⟨[48, 49, 50, 51, 52, 53, 54, 55, 56, 57, 97, 98, 99, 100, 101, 102]⟩⟩)) (some t25) (some t28) none) fun t29 =>
  eqH h h (
  opt (fastBin .add t23 t29) fun t30 =>
  S27_2 call r1 t0 t30 t4 h))))

theorem TS27_3 (call : CallF) (r1 : AV → AV → AV → Heap → Res) : (rk Try.prog call 67 (Code.snd (Code.els (Code.snd (Code.bd (Code.snd (Code.bd (Code.fst (Code.snd (Code.bd (Code.bd (Code.snd (Code.fst (Code.snd (Code.snd c27))))))))))))))).1 (fun s h => S27_2 call r1 (s.rd 0) (s.rd 3) (s.rd 4) h) [(2, (fun s h => S27_2 call r1 (s.rd 0) (s.rd 3) (s.rd 4) h)), (1, (fun s h => S27_2 call r1 (s.rd 0) (s.rd 3) (s.rd 4) h)), (0, (fun s h => S27_0 call (s.rd 3) h))] (finK Try.prog Try.f27.results.toList) (fun _ => stuckK) = fun s h => S27_3 call r1 (s.rd 0) (s.rd 3) (s.rd 4) (s.rd 5) (s.rd 46) h := by funext s h; kernel_rfl

noncomputable def S27_4 (call : CallF) (r1 : AV → AV → AV → Heap → Res) (t0 : AV) (t3 : AV) (t4 : AV) (t5 : AV) (h : Heap) : Res :=
  opt (fastBin .geq t5 (.lit (.int .u8 32))) fun t48 =>
  test t48
  (opt (fastBin .leq t5 (.lit (.int .u8 126))) fun t51 =>
  S27_3 call r1 t0 t3 t4 t5 t51 h)
  (S27_3 call r1 t0 t3 t4 t5 (.lit (.bool false)) h)

theorem TS27_4 (call : CallF) (r1 : AV → AV → AV → Heap → Res) : (rk Try.prog call 67 (Code.els (Code.snd (Code.bd (Code.snd (Code.bd (Code.fst (Code.snd (Code.bd (Code.bd (Code.snd (Code.fst (Code.snd (Code.snd c27)))))))))))))).1 (fun s h => S27_2 call r1 (s.rd 0) (s.rd 3) (s.rd 4) h) [(2, (fun s h => S27_2 call r1 (s.rd 0) (s.rd 3) (s.rd 4) h)), (1, (fun s h => S27_2 call r1 (s.rd 0) (s.rd 3) (s.rd 4) h)), (0, (fun s h => S27_0 call (s.rd 3) h))] (finK Try.prog Try.f27.results.toList) (fun _ => stuckK) = fun s h => S27_4 call r1 (s.rd 0) (s.rd 3) (s.rd 4) (s.rd 5) h := Eq.trans (seq_t (by kernel_rfl) (TS27_3 call r1) rfl) (by funext s h; kernel_rfl)

noncomputable def S27_5 (call : CallF) (r1 : AV → AV → AV → Heap → Res) (t0 : AV) (t3 : AV) (t4 : AV) (t5 : AV) (t31 : AV) (h : Heap) : Res :=
  test t31
  (opt (fastBin .add t3 (.lit (.string ⟨⟨[92]⟩⟩))) fun t39 =>
  opt (fastBin .add t4 (.lit (.int .i64 1))) fun t43 =>
  opt (fastCut t0 (some t4) (some t43) none) fun t44 =>
  opt (fastBin .add t39 t44) fun t45 =>
  S27_2 call r1 t0 t45 t4 h)
  (S27_4 call r1 t0 t3 t4 t5 h)

theorem TS27_5 (call : CallF) (r1 : AV → AV → AV → Heap → Res) : (rk Try.prog call 67 (Code.snd (Code.bd (Code.snd (Code.bd (Code.fst (Code.snd (Code.bd (Code.bd (Code.snd (Code.fst (Code.snd (Code.snd c27))))))))))))).1 (fun s h => S27_2 call r1 (s.rd 0) (s.rd 3) (s.rd 4) h) [(2, (fun s h => S27_2 call r1 (s.rd 0) (s.rd 3) (s.rd 4) h)), (1, (fun s h => S27_2 call r1 (s.rd 0) (s.rd 3) (s.rd 4) h)), (0, (fun s h => S27_0 call (s.rd 3) h))] (finK Try.prog Try.f27.results.toList) (fun _ => stuckK) = fun s h => S27_5 call r1 (s.rd 0) (s.rd 3) (s.rd 4) (s.rd 5) (s.rd 31) h := Eq.trans (cond_t (by kernel_rfl) rfl (TS27_4 call r1)) (by funext s h; kernel_rfl)

noncomputable def S27_6 (call : CallF) (r1 : AV → AV → AV → Heap → Res) (t0 : AV) (t3 : AV) (t4 : AV) (t5 : AV) (h : Heap) : Res :=
  opt (fastBin .eql t5 (.lit (.int .u8 34))) fun t33 =>
  test t33
  (S27_5 call r1 t0 t3 t4 t5 (.lit (.bool true)) h)
  (opt (fastBin .eql t5 (.lit (.int .u8 92))) fun t36 =>
  S27_5 call r1 t0 t3 t4 t5 t36 h)

theorem TS27_6 (call : CallF) (r1 : AV → AV → AV → Heap → Res) : (rk Try.prog call 67 (Code.snd (Code.bd (Code.fst (Code.snd (Code.bd (Code.bd (Code.snd (Code.fst (Code.snd (Code.snd c27))))))))))).1 (fun s h => S27_2 call r1 (s.rd 0) (s.rd 3) (s.rd 4) h) [(1, (fun s h => S27_2 call r1 (s.rd 0) (s.rd 3) (s.rd 4) h)), (0, (fun s h => S27_0 call (s.rd 3) h))] (finK Try.prog Try.f27.results.toList) (fun _ => stuckK) = fun s h => S27_6 call r1 (s.rd 0) (s.rd 3) (s.rd 4) (s.rd 5) h := Eq.trans (block_t (id := 2) (by kernel_rfl) (seq_t (by kernel_rfl) (TS27_5 call r1) rfl)) (by funext s h; kernel_rfl)

noncomputable def S27_7 (call : CallF) (r1 : AV → AV → AV → Heap → Res) (t0 : AV) (t3 : AV) (t4 : AV) (h : Heap) : Res :=
  opt (fastIndex t0 t4) fun t14 =>
  S27_6 call r1 t0 t3 t4 t14 h

theorem TS27_7 (call : CallF) (r1 : AV → AV → AV → Heap → Res) : (rk Try.prog call 67 (Code.snd (Code.bd (Code.bd (Code.snd (Code.fst (Code.snd (Code.snd c27)))))))).1 (fun s h => r1 (s.rd 0) (s.rd 3) (s.rd 4) h) [(0, (fun s h => S27_0 call (s.rd 3) h))] (finK Try.prog Try.f27.results.toList) (fun _ => stuckK) = fun s h => S27_7 call r1 (s.rd 0) (s.rd 3) (s.rd 4) h := Eq.trans (seq_t (by kernel_rfl) (TS27_2 call r1) (block_t (id := 1) (by kernel_rfl) (seq_t (by kernel_rfl) (TS27_6 call r1) rfl))) (by funext s h; kernel_rfl)

noncomputable def S27_8b (call : CallF) (r1 : AV → AV → AV → Heap → Res) (t0 : AV) (t3 : AV) (t4 : AV) (h : Heap) : Res :=
  opt (lenStr t0) fun t8 =>
  opt (fastBin .lss t4 t8) fun t9 =>
  test t9
  (S27_7 call r1 t0 t3 t4 h)
  (S27_0 call t3 h)

theorem TS27_8b (call : CallF) (r1 : AV → AV → AV → Heap → Res) : (rk Try.prog call 67 (Code.bd (Code.bd (Code.snd (Code.fst (Code.snd (Code.snd c27))))))).1 (fun s h => r1 (s.rd 0) (s.rd 3) (s.rd 4) h) [(0, (fun s h => S27_0 call (s.rd 3) h))] (finK Try.prog Try.f27.results.toList) (fun _ => stuckK) = fun s h => S27_8b call r1 (s.rd 0) (s.rd 3) (s.rd 4) h := Eq.trans (seq_t (by kernel_rfl) (TS27_7 call r1) rfl) (by funext s h; kernel_rfl)

noncomputable def S27_1l (call : CallF) : Nat → AV → AV → AV → Heap → Res
  | 0 => fun _ _ _ _ => none
  | k + 1 => S27_8b call (S27_1l call k)

theorem TS27_1l (call : CallF) : (rk Try.prog call 67 (Code.bd (Code.snd (Code.fst (Code.snd (Code.snd c27)))))).1 (fun s h => S27_0 call (s.rd 3) h) [(0, (fun s h => S27_0 call (s.rd 3) h))] (finK Try.prog Try.f27.results.toList) (fun _ => stuckK) = fun s h => S27_1l call rounds (s.rd 0) (s.rd 3) (s.rd 4) h :=
  loop_t (by kernel_rfl) (loop_ind (A := fun m => fun s h => S27_1l call m (s.rd 0) (s.rd 3) (s.rd 4) h) rfl (fun m => TS27_8b call (S27_1l call m)) rounds)

noncomputable def S27_9 (call : CallF) (t0 : AV) (t3 : AV) (t4 : AV) (h : Heap) : Res :=
  S27_1l call rounds t0 t3 t4 h

theorem TS27_9 (call : CallF) : (rk Try.prog call 67 (Code.snd (Code.fst (Code.snd (Code.snd c27))))).1 (fun s h => S27_0 call (s.rd 3) h) [] (finK Try.prog Try.f27.results.toList) (fun _ => stuckK) = fun s h => S27_9 call (s.rd 0) (s.rd 3) (s.rd 4) h := Eq.trans (block_t (id := 0) (by kernel_rfl) (TS27_1l call)) (by funext s h; kernel_rfl)

noncomputable def S27_10 (call : CallF) (t0 : AV) (t3 : AV) (h : Heap) : Res :=
  S27_9 call t0 t3 (.lit (.int .i64 0)) h

theorem TS27_10 (call : CallF) : (rk Try.prog call 67 (Code.snd (Code.snd c27))).1 (finK Try.prog Try.f27.results.toList) [] (finK Try.prog Try.f27.results.toList) (fun _ => stuckK) = fun s h => S27_10 call (s.rd 0) (s.rd 3) h := Eq.trans (seq_t (by kernel_rfl) (TS27_0 call) (seq_t (by kernel_rfl) (TS27_9 call) rfl)) (by funext s h; kernel_rfl)

noncomputable def S27_11 (call : CallF) (t0 : AV) (h : Heap) : Res :=
  S27_10 call t0 (.lit (.string ⟨⟨[34]⟩⟩)) h

theorem TS27_11 (call : CallF) : (rk Try.prog call 67 (Code.snd c27)).1 (finK Try.prog Try.f27.results.toList) [] (finK Try.prog Try.f27.results.toList) (fun _ => stuckK) = fun s h => S27_11 call (s.rd 0) h := Eq.trans (seq_t (by kernel_rfl) (TS27_10 call) rfl) (by funext s h; kernel_rfl)

/-- hawser/hawserref3.Quote -/
noncomputable def F27 (call : CallF) (a0 : AV) (h : Heap) : Res :=
  S27_11 call a0 h

theorem TF27 (call : CallF) (a0 : AV) (h : Heap) : (rk Try.prog call 67 c27).1 (finK Try.prog Try.f27.results.toList) [] (finK Try.prog Try.f27.results.toList) (fun _ => stuckK) (argsTr gl 0 [a0]) h = F27 call a0 h := Eq.trans (congrFun (congrFun (seq_t (by kernel_rfl) (TS27_11 call) rfl) _) _) (by kernel_rfl)

noncomputable def N27 : FnF
  | call, [a0], h => F27 call a0 h
  | _, _, _ => none

theorem N27_ok : FnOk Try.prog gl 27 N27 := FnOk.of namesOk mixedOrders lowOk Try.func27 (by kernel_rfl) fun call args h r hF => by
  unfold N27 at hF
  split at hF
  · rw [← hF, ← TF27]; exact bodyK_at (by kernel_rfl) (by kernel_rfl) rfl rfl
  · cases hF

noncomputable def c32 : Code := codeOf Try.f32

/-- hawser/hawserref3.parts -/
noncomputable def F32 (call : CallF) (a0 : AV) (h : Heap) : Res :=
  opt (fastBin .eql a0 (.lit (.int .u8 9))) fun t4 =>
  test t4
  (some ((.lit (.bool true)), h))
  (opt (fastBin .eql a0 (.lit (.int .u8 10))) fun t7 =>
  test t7
  (some ((.lit (.bool true)), h))
  (opt (fastBin .eql a0 (.lit (.int .u8 13))) fun t11 =>
  test t11
  (some ((.lit (.bool true)), h))
  (opt (fastBin .eql a0 (.lit (.int .u8 32))) fun t15 =>
  some (t15, h))))

theorem TF32 (call : CallF) (a0 : AV) (h : Heap) : (rk Try.prog call 17 c32).1 (finK Try.prog Try.f32.results.toList) [] (finK Try.prog Try.f32.results.toList) (fun _ => stuckK) (argsTr gl 0 [a0]) h = F32 call a0 h := by kernel_rfl

noncomputable def N32 : FnF
  | call, [a0], h => F32 call a0 h
  | _, _, _ => none

theorem N32_ok : FnOk Try.prog gl 32 N32 := FnOk.of namesOk mixedOrders lowOk Try.func32 (by kernel_rfl) fun call args h r hF => by
  unfold N32 at hF
  split at hF
  · rw [← hF, ← TF32]; exact bodyK_at (by kernel_rfl) (by kernel_rfl) rfl rfl
  · cases hF

noncomputable def c33 : Code := codeOf Try.f33

noncomputable def S33_0 (call : CallF) (t0 : AV) (t1 : AV) (t8 : AV) (t9 : AV) (h : Heap) : Res :=
  opt (lenStr t0) fun t142 =>
  opt (fastBin .geq t9 t142) fun t143 =>
  test t143
  (some ((.tup [(.lit (.string ⟨⟨[]⟩⟩)), (.lit (.int .i64 0)), (.lit (.int .i64 10)), t1]), h))
  (opt (lenStr t8) fun t146 =>
  opt (fastBin .gtr t146 (.lit (.int .i64 200))) fun t147 =>
  test t147
  (some ((.tup [(.lit (.string ⟨⟨[]⟩⟩)), (.lit (.int .i64 0)), (.lit (.int .i64 3)), t1]), h))
  (opt (fastBin .add t9 (.lit (.int .i64 1))) fun t151 =>
  some ((.tup [t8, t151, (.lit (.int .i64 0)), (.lit (.int .i64 0))]), h)))

theorem TS33_0 (call : CallF) : (rk Try.prog call 152 (Code.snd (Code.snd (Code.snd (Code.snd c33))))).1 (finK Try.prog Try.f33.results.toList) [] (finK Try.prog Try.f33.results.toList) (fun _ => stuckK) = fun s h => S33_0 call (s.rd 0) (s.rd 1) (s.rd 8) (s.rd 9) h := by funext s h; kernel_rfl

noncomputable def S33_2 (call : CallF) (r1 : AV → AV → AV → AV → Heap → Res) (t0 : AV) (t1 : AV) (t8 : AV) (t9 : AV) (t92 : AV) (h : Heap) : Res :=
  test t92
  (opt (fastBin .add t9 (.lit (.int .i64 2))) fun t124 =>
  opt (fastIndex t0 t124) fun t125 =>
  opt2 (call 37 [t125] h) fun t126 h1 =>
  eqH h1 h (
  opt (fastBin .mul t126 (.lit (.int .i64 16))) fun t127 =>
  opt (fastBin .add t9 (.lit (.int .i64 3))) fun t130 =>
  opt (fastIndex t0 t130) fun t131 =>
  opt2 (call 37 [t131] h) fun t132 h2 =>
  eqH h2 h (
  opt (fastBin .add t127 t132) fun t133 =>
  opt (convI .u8 t133) fun t134 =>
  eqH h h (
  opt2 (bsliceX 1 (.lit (.int .u8 0)) 1 [(0, t134)] h) fun t135 h3 =>
  eqH h3 h (
  opt (b2sX t135 h) fun t136 =>
  eqH h h (
  opt (fastBin .add t8 t136) fun t137 =>
  opt (fastBin .add t9 (.lit (.int .i64 4))) fun t139 =>
  r1 t0 t1 t137 t139 h))))))
  (some ((.tup [(.lit (.string ⟨⟨[]⟩⟩)), (.lit (.int .i64 0)), (.lit (.int .i64 12)), t9]), h))

theorem TS33_2 (call : CallF) (r1 : AV → AV → AV → AV → Heap → Res) : (rk Try.prog call 152 (Code.snd (Code.els (Code.snd (Code.els (Code.snd (Code.bd (Code.snd (Code.snd (Code.snd (Code.bd (Code.snd (Code.bd (Code.bd (Code.fst (Code.snd (Code.snd (Code.snd c33)))))))))))))))))).1 (fun s h => r1 (s.rd 0) (s.rd 1) (s.rd 8) (s.rd 9) h) [(2, (fun s h => r1 (s.rd 0) (s.rd 1) (s.rd 8) (s.rd 9) h)), (1, (fun s h => r1 (s.rd 0) (s.rd 1) (s.rd 8) (s.rd 9) h)), (0, (fun s h => S33_0 call (s.rd 0) (s.rd 1) (s.rd 8) (s.rd 9) h))] (finK Try.prog Try.f33.results.toList) (fun _ => stuckK) = fun s h => S33_2 call r1 (s.rd 0) (s.rd 1) (s.rd 8) (s.rd 9) (s.rd 92) h := by funext s h; kernel_rfl

noncomputable def S33_3 (call : CallF) (r1 : AV → AV → AV → AV → Heap → Res) (t0 : AV) (t1 : AV) (t8 : AV) (t9 : AV) (h : Heap) : Res :=
  opt (fastBin .add t9 (.lit (.int .i64 3))) fun t94 =>
  opt (lenStr t0) fun t96 =>
  opt (fastBin .lss t94 t96) fun t97 =>
  test t97
  (opt (fastBin .add t9 (.lit (.int .i64 1))) fun t101 =>
  opt (fastIndex t0 t101) fun t102 =>
  opt (fastBin .eql t102 (.lit (.int .u8 120))) fun t103 =>
  test t103
  (opt (fastBin .add t9 (.lit (.int .i64 2))) fun t108 =>
  opt (fastIndex t0 t108) fun t109 =>
  opt2 (call 37 [t109] h) fun t110 h1 =>
  opt (fastBin .geq t110 (.lit (.int .i64 0))) fun t111 =>
  test t111
  (opt (fastBin .add t9 (.lit (.int .i64 3))) fun t116 =>
  opt (fastIndex t0 t116) fun t117 =>
  opt2 (call 37 [t117] h1) fun t118 h2 =>
  opt (fastBin .geq t118 (.lit (.int .i64 0))) fun t119 =>
  S33_2 call r1 t0 t1 t8 t9 t119 h2)
  (S33_2 call r1 t0 t1 t8 t9 (.lit (.bool false)) h1))
  (S33_2 call r1 t0 t1 t8 t9 (.lit (.bool false)) h))
  (S33_2 call r1 t0 t1 t8 t9 (.lit (.bool false)) h)

theorem TS33_3 (call : CallF) (r1 : AV → AV → AV → AV → Heap → Res) : (rk Try.prog call 152 (Code.els (Code.snd (Code.els (Code.snd (Code.bd (Code.snd (Code.snd (Code.snd (Code.bd (Code.snd (Code.bd (Code.bd (Code.fst (Code.snd (Code.snd (Code.snd c33))))))))))))))))).1 (fun s h => r1 (s.rd 0) (s.rd 1) (s.rd 8) (s.rd 9) h) [(2, (fun s h => r1 (s.rd 0) (s.rd 1) (s.rd 8) (s.rd 9) h)), (1, (fun s h => r1 (s.rd 0) (s.rd 1) (s.rd 8) (s.rd 9) h)), (0, (fun s h => S33_0 call (s.rd 0) (s.rd 1) (s.rd 8) (s.rd 9) h))] (finK Try.prog Try.f33.results.toList) (fun _ => stuckK) = fun s h => S33_3 call r1 (s.rd 0) (s.rd 1) (s.rd 8) (s.rd 9) h := Eq.trans (seq_t (by kernel_rfl) (TS33_2 call r1) rfl) (by funext s h; kernel_rfl)

noncomputable def S33_4 (call : CallF) (r1 : AV → AV → AV → AV → Heap → Res) (t0 : AV) (t1 : AV) (t8 : AV) (t9 : AV) (t75 : AV) (h : Heap) : Res :=
  test t75
  (opt (fastBin .add t8 (.lit (.string ⟨⟨[10]⟩⟩))) fun t89 =>
  opt (fastBin .add t9 (.lit (.int .i64 2))) fun t91 =>
  r1 t0 t1 t89 t91 h)
  (S33_3 call r1 t0 t1 t8 t9 h)

theorem TS33_4 (call : CallF) (r1 : AV → AV → AV → AV → Heap → Res) : (rk Try.prog call 152 (Code.snd (Code.els (Code.snd (Code.bd (Code.snd (Code.snd (Code.snd (Code.bd (Code.snd (Code.bd (Code.bd (Code.fst (Code.snd (Code.snd (Code.snd c33)))))))))))))))).1 (fun s h => r1 (s.rd 0) (s.rd 1) (s.rd 8) (s.rd 9) h) [(2, (fun s h => r1 (s.rd 0) (s.rd 1) (s.rd 8) (s.rd 9) h)), (1, (fun s h => r1 (s.rd 0) (s.rd 1) (s.rd 8) (s.rd 9) h)), (0, (fun s h => S33_0 call (s.rd 0) (s.rd 1) (s.rd 8) (s.rd 9) h))] (finK Try.prog Try.f33.results.toList) (fun _ => stuckK) = fun s h => S33_4 call r1 (s.rd 0) (s.rd 1) (s.rd 8) (s.rd 9) (s.rd 75) h := Eq.trans (cond_t (by kernel_rfl) rfl (TS33_3 call r1)) (by funext s h; kernel_rfl)

noncomputable def S33_5 (call : CallF) (r1 : AV → AV → AV → AV → Heap → Res) (t0 : AV) (t1 : AV) (t8 : AV) (t9 : AV) (h : Heap) : Res :=
  opt (fastBin .add t9 (.lit (.int .i64 1))) fun t77 =>
  opt (lenStr t0) fun t79 =>
  opt (fastBin .lss t77 t79) fun t80 =>
  test t80
  (opt (fastBin .add t9 (.lit (.int .i64 1))) fun t84 =>
  opt (fastIndex t0 t84) fun t85 =>
  opt (fastBin .eql t85 (.lit (.int .u8 110))) fun t86 =>
  S33_4 call r1 t0 t1 t8 t9 t86 h)
  (S33_4 call r1 t0 t1 t8 t9 (.lit (.bool false)) h)

theorem TS33_5 (call : CallF) (r1 : AV → AV → AV → AV → Heap → Res) : (rk Try.prog call 152 (Code.els (Code.snd (Code.bd (Code.snd (Code.snd (Code.snd (Code.bd (Code.snd (Code.bd (Code.bd (Code.fst (Code.snd (Code.snd (Code.snd c33))))))))))))))).1 (fun s h => r1 (s.rd 0) (s.rd 1) (s.rd 8) (s.rd 9) h) [(2, (fun s h => r1 (s.rd 0) (s.rd 1) (s.rd 8) (s.rd 9) h)), (1, (fun s h => r1 (s.rd 0) (s.rd 1) (s.rd 8) (s.rd 9) h)), (0, (fun s h => S33_0 call (s.rd 0) (s.rd 1) (s.rd 8) (s.rd 9) h))] (finK Try.prog Try.f33.results.toList) (fun _ => stuckK) = fun s h => S33_5 call r1 (s.rd 0) (s.rd 1) (s.rd 8) (s.rd 9) h := Eq.trans (seq_t (by kernel_rfl) (TS33_4 call r1) rfl) (by funext s h; kernel_rfl)

noncomputable def S33_6 (call : CallF) (r1 : AV → AV → AV → AV → Heap → Res) (t0 : AV) (t1 : AV) (t8 : AV) (t9 : AV) (t45 : AV) (h : Heap) : Res :=
  test t45
  (opt (fastBin .add t9 (.lit (.int .i64 1))) fun t68 =>
  opt (fastBin .add t9 (.lit (.int .i64 2))) fun t70 =>
  opt (fastCut t0 (some t68) (some t70) none) fun t71 =>
  opt (fastBin .add t8 t71) fun t72 =>
  opt (fastBin .add t9 (.lit (.int .i64 2))) fun t74 =>
  r1 t0 t1 t72 t74 h)
  (S33_5 call r1 t0 t1 t8 t9 h)

theorem TS33_6 (call : CallF) (r1 : AV → AV → AV → AV → Heap → Res) : (rk Try.prog call 152 (Code.snd (Code.bd (Code.snd (Code.snd (Code.snd (Code.bd (Code.snd (Code.bd (Code.bd (Code.fst (Code.snd (Code.snd (Code.snd c33)))))))))))))).1 (fun s h => r1 (s.rd 0) (s.rd 1) (s.rd 8) (s.rd 9) h) [(2, (fun s h => r1 (s.rd 0) (s.rd 1) (s.rd 8) (s.rd 9) h)), (1, (fun s h => r1 (s.rd 0) (s.rd 1) (s.rd 8) (s.rd 9) h)), (0, (fun s h => S33_0 call (s.rd 0) (s.rd 1) (s.rd 8) (s.rd 9) h))] (finK Try.prog Try.f33.results.toList) (fun _ => stuckK) = fun s h => S33_6 call r1 (s.rd 0) (s.rd 1) (s.rd 8) (s.rd 9) (s.rd 45) h := Eq.trans (cond_t (by kernel_rfl) rfl (TS33_5 call r1)) (by funext s h; kernel_rfl)

noncomputable def S33_7 (call : CallF) (r1 : AV → AV → AV → AV → Heap → Res) (t0 : AV) (t1 : AV) (t8 : AV) (t9 : AV) (h : Heap) : Res :=
  opt (fastBin .add t9 (.lit (.int .i64 1))) fun t47 =>
  opt (lenStr t0) fun t49 =>
  opt (fastBin .lss t47 t49) fun t50 =>
  test t50
  (opt (fastBin .add t9 (.lit (.int .i64 1))) fun t54 =>
  opt (fastIndex t0 t54) fun t55 =>
  opt (fastBin .eql t55 (.lit (.int .u8 34))) fun t56 =>
  test t56
  (S33_6 call r1 t0 t1 t8 t9 (.lit (.bool true)) h)
  (opt (fastBin .add t9 (.lit (.int .i64 1))) fun t60 =>
  opt (fastIndex t0 t60) fun t61 =>
  opt (fastBin .eql t61 (.lit (.int .u8 92))) fun t62 =>
  S33_6 call r1 t0 t1 t8 t9 t62 h))
  (S33_6 call r1 t0 t1 t8 t9 (.lit (.bool false)) h)

theorem TS33_7 (call : CallF) (r1 : AV → AV → AV → AV → Heap → Res) : (rk Try.prog call 152 (Code.snd (Code.snd (Code.snd (Code.bd (Code.snd (Code.bd (Code.bd (Code.fst (Code.snd (Code.snd (Code.snd c33)))))))))))).1 (fun s h => r1 (s.rd 0) (s.rd 1) (s.rd 8) (s.rd 9) h) [(1, (fun s h => r1 (s.rd 0) (s.rd 1) (s.rd 8) (s.rd 9) h)), (0, (fun s h => S33_0 call (s.rd 0) (s.rd 1) (s.rd 8) (s.rd 9) h))] (finK Try.prog Try.f33.results.toList) (fun _ => stuckK) = fun s h => S33_7 call r1 (s.rd 0) (s.rd 1) (s.rd 8) (s.rd 9) h := Eq.trans (block_t (id := 2) (by kernel_rfl) (seq_t (by kernel_rfl) (TS33_6 call r1) rfl)) (by funext s h; kernel_rfl)

noncomputable def S33_8 (call : CallF) (r1 : AV → AV → AV → AV → Heap → Res) (t0 : AV) (t1 : AV) (t8 : AV) (t9 : AV) (t10 : AV) (h : Heap) : Res :=
  opt (fastBin .neq t10 (.lit (.int .u8 92))) fun t34 =>
  test t34
  (opt (fastBin .add t9 (.lit (.int .i64 1))) fun t39 =>
  opt (fastCut t0 (some t9) (some t39) none) fun t40 =>
  opt (fastBin .add t8 t40) fun t41 =>
  opt (fastBin .add t9 (.lit (.int .i64 1))) fun t43 =>
  r1 t0 t1 t41 t43 h)
  (S33_7 call r1 t0 t1 t8 t9 h)

theorem TS33_8 (call : CallF) (r1 : AV → AV → AV → AV → Heap → Res) : (rk Try.prog call 152 (Code.snd (Code.snd (Code.bd (Code.snd (Code.bd (Code.bd (Code.fst (Code.snd (Code.snd (Code.snd c33))))))))))).1 (fun s h => r1 (s.rd 0) (s.rd 1) (s.rd 8) (s.rd 9) h) [(1, (fun s h => r1 (s.rd 0) (s.rd 1) (s.rd 8) (s.rd 9) h)), (0, (fun s h => S33_0 call (s.rd 0) (s.rd 1) (s.rd 8) (s.rd 9) h))] (finK Try.prog Try.f33.results.toList) (fun _ => stuckK) = fun s h => S33_8 call r1 (s.rd 0) (s.rd 1) (s.rd 8) (s.rd 9) (s.rd 10) h := Eq.trans (seq_t (by kernel_rfl) (TS33_7 call r1) rfl) (by funext s h; kernel_rfl)

noncomputable def S33_9 (call : CallF) (r1 : AV → AV → AV → AV → Heap → Res) (t0 : AV) (t1 : AV) (t8 : AV) (t9 : AV) (t10 : AV) (t31 : AV) (h : Heap) : Res :=
  test t31
  (some ((.tup [(.lit (.string ⟨⟨[]⟩⟩)), (.lit (.int .i64 0)), (.lit (.int .i64 12)), t9]), h))
  (S33_8 call r1 t0 t1 t8 t9 t10 h)

theorem TS33_9 (call : CallF) (r1 : AV → AV → AV → AV → Heap → Res) : (rk Try.prog call 152 (Code.snd (Code.fst (Code.snd (Code.bd (Code.snd (Code.bd (Code.bd (Code.fst (Code.snd (Code.snd (Code.snd c33)))))))))))).1 (fun s h => S33_8 call r1 (s.rd 0) (s.rd 1) (s.rd 8) (s.rd 9) (s.rd 10) h) [(1, (fun s h => r1 (s.rd 0) (s.rd 1) (s.rd 8) (s.rd 9) h)), (0, (fun s h => S33_0 call (s.rd 0) (s.rd 1) (s.rd 8) (s.rd 9) h))] (finK Try.prog Try.f33.results.toList) (fun _ => stuckK) = fun s h => S33_9 call r1 (s.rd 0) (s.rd 1) (s.rd 8) (s.rd 9) (s.rd 10) (s.rd 31) h := by funext s h; kernel_rfl

noncomputable def S33_10 (call : CallF) (r1 : AV → AV → AV → AV → Heap → Res) (t0 : AV) (t1 : AV) (t8 : AV) (t9 : AV) (t10 : AV) (h : Heap) : Res :=
  opt (fastBin .lss t10 (.lit (.int .u8 32))) fun t27 =>
  test t27
  (S33_9 call r1 t0 t1 t8 t9 t10 (.lit (.bool true)) h)
  (opt (fastBin .gtr t10 (.lit (.int .u8 126))) fun t30 =>
  S33_9 call r1 t0 t1 t8 t9 t10 t30 h)

theorem TS33_10 (call : CallF) (r1 : AV → AV → AV → AV → Heap → Res) : (rk Try.prog call 152 (Code.snd (Code.bd (Code.snd (Code.bd (Code.bd (Code.fst (Code.snd (Code.snd (Code.snd c33)))))))))).1 (fun s h => r1 (s.rd 0) (s.rd 1) (s.rd 8) (s.rd 9) h) [(1, (fun s h => r1 (s.rd 0) (s.rd 1) (s.rd 8) (s.rd 9) h)), (0, (fun s h => S33_0 call (s.rd 0) (s.rd 1) (s.rd 8) (s.rd 9) h))] (finK Try.prog Try.f33.results.toList) (fun _ => stuckK) = fun s h => S33_10 call r1 (s.rd 0) (s.rd 1) (s.rd 8) (s.rd 9) (s.rd 10) h := Eq.trans (seq_t (by kernel_rfl) (TS33_8 call r1) (seq_t (by kernel_rfl) (TS33_9 call r1) rfl)) (by funext s h; kernel_rfl)

noncomputable def S33_11 (call : CallF) (r1 : AV → AV → AV → AV → Heap → Res) (t0 : AV) (t1 : AV) (t8 : AV) (t9 : AV) (h : Heap) : Res :=
  opt (fastIndex t0 t9) fun t25 =>
  S33_10 call r1 t0 t1 t8 t9 t25 h

theorem TS33_11 (call : CallF) (r1 : AV → AV → AV → AV → Heap → Res) : (rk Try.prog call 152 (Code.snd (Code.bd (Code.bd (Code.fst (Code.snd (Code.snd (Code.snd c33)))))))).1 (fun s h => r1 (s.rd 0) (s.rd 1) (s.rd 8) (s.rd 9) h) [(0, (fun s h => S33_0 call (s.rd 0) (s.rd 1) (s.rd 8) (s.rd 9) h))] (finK Try.prog Try.f33.results.toList) (fun _ => stuckK) = fun s h => S33_11 call r1 (s.rd 0) (s.rd 1) (s.rd 8) (s.rd 9) h := Eq.trans (block_t (id := 1) (by kernel_rfl) (seq_t (by kernel_rfl) (TS33_10 call r1) rfl)) (by funext s h; kernel_rfl)

noncomputable def S33_12b (call : CallF) (r1 : AV → AV → AV → AV → Heap → Res) (t0 : AV) (t1 : AV) (t8 : AV) (t9 : AV) (h : Heap) : Res :=
  opt (lenStr t0) fun t15 =>
  opt (fastBin .lss t9 t15) fun t16 =>
  test t16
  (opt (fastIndex t0 t9) fun t20 =>
  opt (fastBin .neq t20 (.lit (.int .u8 34))) fun t21 =>
  test t21
  (S33_11 call r1 t0 t1 t8 t9 h)
  (S33_0 call t0 t1 t8 t9 h))
  (S33_0 call t0 t1 t8 t9 h)

theorem TS33_12b (call : CallF) (r1 : AV → AV → AV → AV → Heap → Res) : (rk Try.prog call 152 (Code.bd (Code.bd (Code.fst (Code.snd (Code.snd (Code.snd c33))))))).1 (fun s h => r1 (s.rd 0) (s.rd 1) (s.rd 8) (s.rd 9) h) [(0, (fun s h => S33_0 call (s.rd 0) (s.rd 1) (s.rd 8) (s.rd 9) h))] (finK Try.prog Try.f33.results.toList) (fun _ => stuckK) = fun s h => S33_12b call r1 (s.rd 0) (s.rd 1) (s.rd 8) (s.rd 9) h := Eq.trans (seq_t (by kernel_rfl) (TS33_11 call r1) rfl) (by funext s h; kernel_rfl)

noncomputable def S33_1l (call : CallF) : Nat → AV → AV → AV → AV → Heap → Res
  | 0 => fun _ _ _ _ _ => none
  | k + 1 => S33_12b call (S33_1l call k)

theorem TS33_1l (call : CallF) : (rk Try.prog call 152 (Code.bd (Code.fst (Code.snd (Code.snd (Code.snd c33)))))).1 (fun s h => S33_0 call (s.rd 0) (s.rd 1) (s.rd 8) (s.rd 9) h) [(0, (fun s h => S33_0 call (s.rd 0) (s.rd 1) (s.rd 8) (s.rd 9) h))] (finK Try.prog Try.f33.results.toList) (fun _ => stuckK) = fun s h => S33_1l call rounds (s.rd 0) (s.rd 1) (s.rd 8) (s.rd 9) h :=
  loop_t (by kernel_rfl) (loop_ind (A := fun m => fun s h => S33_1l call m (s.rd 0) (s.rd 1) (s.rd 8) (s.rd 9) h) rfl (fun m => TS33_12b call (S33_1l call m)) rounds)

noncomputable def S33_13 (call : CallF) (t0 : AV) (t1 : AV) (t8 : AV) (t9 : AV) (h : Heap) : Res :=
  S33_1l call rounds t0 t1 t8 t9 h

theorem TS33_13 (call : CallF) : (rk Try.prog call 152 (Code.snd (Code.snd (Code.snd c33)))).1 (finK Try.prog Try.f33.results.toList) [] (finK Try.prog Try.f33.results.toList) (fun _ => stuckK) = fun s h => S33_13 call (s.rd 0) (s.rd 1) (s.rd 8) (s.rd 9) h := Eq.trans (seq_t (by kernel_rfl) (TS33_0 call) (block_t (id := 0) (by kernel_rfl) (TS33_1l call))) (by funext s h; kernel_rfl)

noncomputable def S33_14 (call : CallF) (t0 : AV) (t1 : AV) (t8 : AV) (h : Heap) : Res :=
  opt (fastBin .add t1 (.lit (.int .i64 1))) fun t12 =>
  S33_13 call t0 t1 t8 t12 h

theorem TS33_14 (call : CallF) : (rk Try.prog call 152 (Code.snd (Code.snd c33))).1 (finK Try.prog Try.f33.results.toList) [] (finK Try.prog Try.f33.results.toList) (fun _ => stuckK) = fun s h => S33_14 call (s.rd 0) (s.rd 1) (s.rd 8) h := Eq.trans (seq_t (by kernel_rfl) (TS33_13 call) rfl) (by funext s h; kernel_rfl)

noncomputable def S33_15 (call : CallF) (t0 : AV) (t1 : AV) (h : Heap) : Res :=
  S33_14 call t0 t1 (.lit (.string ⟨⟨[]⟩⟩)) h

theorem TS33_15 (call : CallF) : (rk Try.prog call 152 (Code.snd c33)).1 (finK Try.prog Try.f33.results.toList) [] (finK Try.prog Try.f33.results.toList) (fun _ => stuckK) = fun s h => S33_15 call (s.rd 0) (s.rd 1) h := Eq.trans (seq_t (by kernel_rfl) (TS33_14 call) rfl) (by funext s h; kernel_rfl)

/-- hawser/hawserref3.quoted -/
noncomputable def F33 (call : CallF) (a0 : AV) (a1 : AV) (h : Heap) : Res :=
  S33_15 call a0 a1 h

theorem TF33 (call : CallF) (a0 : AV) (a1 : AV) (h : Heap) : (rk Try.prog call 152 c33).1 (finK Try.prog Try.f33.results.toList) [] (finK Try.prog Try.f33.results.toList) (fun _ => stuckK) (argsTr gl 0 [a0, a1]) h = F33 call a0 a1 h := Eq.trans (congrFun (congrFun (seq_t (by kernel_rfl) (TS33_15 call) rfl) _) _) (by kernel_rfl)

noncomputable def N33 : FnF
  | call, [a0, a1], h => F33 call a0 a1 h
  | _, _, _ => none

theorem N33_ok : FnOk Try.prog gl 33 N33 := FnOk.of namesOk mixedOrders lowOk Try.func33 (by kernel_rfl) fun call args h r hF => by
  unfold N33 at hF
  split at hF
  · rw [← hF, ← TF33]; exact bodyK_at (by kernel_rfl) (by kernel_rfl) rfl rfl
  · cases hF

noncomputable def c37 : Code := codeOf Try.f37

noncomputable def S37_0 (call : CallF) (t0 : AV) (t13 : AV) (h : Heap) : Res :=
  test t13
  (opt (fastBin .sub t0 (.lit (.int .u8 97))) fun t21 =>
  opt (convI .i64 t21) fun t22 =>
  opt (fastBin .add t22 (.lit (.int .i64 10))) fun t23 =>
  some (t23, h))
  (some ((.lit (.int .i64 (-1))), h))

theorem TS37_0 (call : CallF) : (rk Try.prog call 24 (Code.snd (Code.els (Code.snd (Code.bd (Code.fst (Code.snd c37))))))).1 ((rk Try.prog call 24 (Code.snd (Code.snd c37))).1 (finK Try.prog Try.f37.results.toList) [] (finK Try.prog Try.f37.results.toList) (fun _ => stuckK)) [(0, ((rk Try.prog call 24 (Code.snd (Code.snd c37))).1 (finK Try.prog Try.f37.results.toList) [] (finK Try.prog Try.f37.results.toList) (fun _ => stuckK)))] (finK Try.prog Try.f37.results.toList) (fun _ => stuckK) = fun s h => S37_0 call (s.rd 0) (s.rd 13) h := by funext s h; kernel_rfl

noncomputable def S37_1 (call : CallF) (t0 : AV) (h : Heap) : Res :=
  opt (fastBin .geq t0 (.lit (.int .u8 97))) fun t15 =>
  test t15
  (opt (fastBin .leq t0 (.lit (.int .u8 102))) fun t18 =>
  S37_0 call t0 t18 h)
  (S37_0 call t0 (.lit (.bool false)) h)

theorem TS37_1 (call : CallF) : (rk Try.prog call 24 (Code.els (Code.snd (Code.bd (Code.fst (Code.snd c37)))))).1 ((rk Try.prog call 24 (Code.snd (Code.snd c37))).1 (finK Try.prog Try.f37.results.toList) [] (finK Try.prog Try.f37.results.toList) (fun _ => stuckK)) [(0, ((rk Try.prog call 24 (Code.snd (Code.snd c37))).1 (finK Try.prog Try.f37.results.toList) [] (finK Try.prog Try.f37.results.toList) (fun _ => stuckK)))] (finK Try.prog Try.f37.results.toList) (fun _ => stuckK) = fun s h => S37_1 call (s.rd 0) h := Eq.trans (seq_t (by kernel_rfl) (TS37_0 call) rfl) (by funext s h; kernel_rfl)

noncomputable def S37_2 (call : CallF) (t0 : AV) (t3 : AV) (h : Heap) : Res :=
  test t3
  (opt (fastBin .sub t0 (.lit (.int .u8 48))) fun t11 =>
  opt (convI .i64 t11) fun t12 =>
  some (t12, h))
  (S37_1 call t0 h)

theorem TS37_2 (call : CallF) : (rk Try.prog call 24 (Code.snd (Code.bd (Code.fst (Code.snd c37))))).1 ((rk Try.prog call 24 (Code.snd (Code.snd c37))).1 (finK Try.prog Try.f37.results.toList) [] (finK Try.prog Try.f37.results.toList) (fun _ => stuckK)) [(0, ((rk Try.prog call 24 (Code.snd (Code.snd c37))).1 (finK Try.prog Try.f37.results.toList) [] (finK Try.prog Try.f37.results.toList) (fun _ => stuckK)))] (finK Try.prog Try.f37.results.toList) (fun _ => stuckK) = fun s h => S37_2 call (s.rd 0) (s.rd 3) h := Eq.trans (cond_t (by kernel_rfl) rfl (TS37_1 call)) (by funext s h; kernel_rfl)

noncomputable def S37_3 (call : CallF) (t0 : AV) (h : Heap) : Res :=
  opt (fastBin .geq t0 (.lit (.int .u8 48))) fun t5 =>
  test t5
  (opt (fastBin .leq t0 (.lit (.int .u8 57))) fun t8 =>
  S37_2 call t0 t8 h)
  (S37_2 call t0 (.lit (.bool false)) h)

theorem TS37_3 (call : CallF) : (rk Try.prog call 24 (Code.snd c37)).1 (finK Try.prog Try.f37.results.toList) [] (finK Try.prog Try.f37.results.toList) (fun _ => stuckK) = fun s h => S37_3 call (s.rd 0) h := Eq.trans (seq_t (by kernel_rfl) rfl (block_t (id := 0) (by kernel_rfl) (seq_t (by kernel_rfl) (TS37_2 call) rfl))) (by funext s h; kernel_rfl)

/-- hawser/hawserref3.hex -/
noncomputable def F37 (call : CallF) (a0 : AV) (h : Heap) : Res :=
  S37_3 call a0 h

theorem TF37 (call : CallF) (a0 : AV) (h : Heap) : (rk Try.prog call 24 c37).1 (finK Try.prog Try.f37.results.toList) [] (finK Try.prog Try.f37.results.toList) (fun _ => stuckK) (argsTr gl 0 [a0]) h = F37 call a0 h := Eq.trans (congrFun (congrFun (seq_t (by kernel_rfl) (TS37_3 call) rfl) _) _) (by kernel_rfl)

noncomputable def N37 : FnF
  | call, [a0], h => F37 call a0 h
  | _, _, _ => none

theorem N37_ok : FnOk Try.prog gl 37 N37 := FnOk.of namesOk mixedOrders lowOk Try.func37 (by kernel_rfl) fun call args h r hF => by
  unfold N37 at hF
  split at hF
  · rw [← hF, ← TF37]; exact bodyK_at (by kernel_rfl) (by kernel_rfl) rfl rfl
  · cases hF

end Go.Proofs.Ytcajleckiegffaa
