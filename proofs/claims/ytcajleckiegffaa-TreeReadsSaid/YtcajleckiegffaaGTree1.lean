import Derived.Test.YtcajleckiegffaaGLex
set_option linter.unusedSectionVars false
namespace Go.Proofs.Ytcajleckiegffaa
open Go.Am
set_option maxRecDepth 100000
set_option linter.unusedSimpArgs false
set_option linter.unusedVariables false
noncomputable def c8 : Code := codeOf Try.f8

noncomputable def S8_0 (call : CallF) (t1 : AV) (t11 : AV) (h : Heap) : Res :=
  opt (fastBin .add t11 (.lit (.string ⟨⟨[41]⟩⟩))) fun t71 =>
  opt2 (call 12 [t71] h) fun t72 h1 =>
  opt (extractX t72 0) fun t73 =>
  opt (extractX t72 1) fun t74 =>
  opt (extractX t72 2) fun t75 =>
  opt2 (box (.agg [(.lit (.int .i64 0)), (.lit (.int .i64 0)), (.lit (.string ⟨⟨[]⟩⟩)), (.lit (.slice none 0 0))]) h1) fun t13 h2 =>
  optH (storeX 4 t13 t73 h2) fun h3 =>
  opt (fastBin .eql t74 (.lit (.int .i64 0))) fun t77 =>
  test t77
  (opt (fieldAddrX 3 t13) fun t79 =>
  opt (loadX none t79 h3) fun t80 =>
  opt (lenS t80) fun t81 =>
  opt (fastBin .eql t81 t1) fun t83 =>
  test t83
  (opt (fieldAddrX 3 t13) fun t86 =>
  opt (loadX none t86 h3) fun t87 =>
  opt (fastBin .sub t1 (.lit (.int .i64 1))) fun t89 =>
  opt (indexAddrS 4 t87 t89 h3) fun t90 =>
  opt (fieldAddrX 1 t90) fun t91 =>
  opt (loadX none t91 h3) fun t92 =>
  opt (fastBin .mul (.lit (.int .i64 2)) t1) fun t94 =>
  opt (fastBin .sub t94 (.lit (.int .i64 1))) fun t95 =>
  opt (fastBin .eql t92 t95) fun t96 =>
  test t96
  (opt2 (call 14 [] h3) fun t99 h4 =>
  some (t99, h4))
  (some ((.lit (.bool false)), h3)))
  (some ((.lit (.bool false)), h3)))
  (some ((.lit (.bool false)), h3))

theorem TS8_0 (call : CallF) : (rk Try.prog call 101 (Code.snd (Code.snd (Code.snd (Code.snd (Code.snd (Code.snd (Code.snd (Code.snd (Code.snd (Code.snd (Code.snd (Code.snd c8))))))))))))).1 (finK Try.prog Try.f8.results.toList) [] (finK Try.prog Try.f8.results.toList) (fun _ => stuckK) = fun s h => S8_0 call (s.rd 1) (s.rd 11) h := by funext s h; kernel_rfl

noncomputable def S8_2b (call : CallF) (r1 : AV → AV → AV → Heap → Res) (t1 : AV) (t11 : AV) (t12 : AV) (h : Heap) : Res :=
  opt (fastBin .lss t12 t1) fun t64 =>
  test t64
  (opt (fastBin .add t11 (.lit (.string ⟨⟨[40, 41]⟩⟩))) fun t68 =>
  opt (fastBin .add t12 (.lit (.int .i64 1))) fun t66 =>
  r1 t1 t68 t66 h)
  (S8_0 call t1 t11 h)

theorem TS8_2b (call : CallF) (r1 : AV → AV → AV → Heap → Res) : (rk Try.prog call 101 (Code.bd (Code.bd (Code.snd (Code.fst (Code.snd (Code.snd (Code.snd (Code.snd (Code.snd (Code.snd (Code.snd (Code.snd (Code.snd (Code.snd (Code.snd c8)))))))))))))))).1 (fun s h => r1 (s.rd 1) (s.rd 11) (s.rd 12) h) [(4, (fun s h => S8_0 call (s.rd 1) (s.rd 11) h))] (finK Try.prog Try.f8.results.toList) (fun _ => stuckK) = fun s h => S8_2b call r1 (s.rd 1) (s.rd 11) (s.rd 12) h := by funext s h; kernel_rfl

noncomputable def S8_1l (call : CallF) : Nat → AV → AV → AV → Heap → Res
  | 0 => fun _ _ _ _ => none
  | k + 1 => S8_2b call (S8_1l call k)

theorem TS8_1l (call : CallF) : (rk Try.prog call 101 (Code.bd (Code.snd (Code.fst (Code.snd (Code.snd (Code.snd (Code.snd (Code.snd (Code.snd (Code.snd (Code.snd (Code.snd (Code.snd (Code.snd c8))))))))))))))).1 (fun s h => S8_0 call (s.rd 1) (s.rd 11) h) [(4, (fun s h => S8_0 call (s.rd 1) (s.rd 11) h))] (finK Try.prog Try.f8.results.toList) (fun _ => stuckK) = fun s h => S8_1l call rounds (s.rd 1) (s.rd 11) (s.rd 12) h :=
  loop_t (by kernel_rfl) (loop_ind (A := fun m => fun s h => S8_1l call m (s.rd 1) (s.rd 11) (s.rd 12) h) rfl (fun m => TS8_2b call (S8_1l call m)) rounds)

noncomputable def S8_3 (call : CallF) (t1 : AV) (t11 : AV) (t12 : AV) (h : Heap) : Res :=
  S8_1l call rounds t1 t11 t12 h

theorem TS8_3 (call : CallF) : (rk Try.prog call 101 (Code.snd (Code.fst (Code.snd (Code.snd (Code.snd (Code.snd (Code.snd (Code.snd (Code.snd (Code.snd (Code.snd (Code.snd (Code.snd c8)))))))))))))).1 (fun s h => S8_0 call (s.rd 1) (s.rd 11) h) [] (finK Try.prog Try.f8.results.toList) (fun _ => stuckK) = fun s h => S8_3 call (s.rd 1) (s.rd 11) (s.rd 12) h := Eq.trans (block_t (id := 4) (by kernel_rfl) (TS8_1l call)) (by funext s h; kernel_rfl)

noncomputable def S8_4 (call : CallF) (t1 : AV) (t11 : AV) (h : Heap) : Res :=
  S8_3 call t1 t11 (.lit (.int .i64 0)) h

theorem TS8_4 (call : CallF) : (rk Try.prog call 101 (Code.snd (Code.snd (Code.snd (Code.snd (Code.snd (Code.snd (Code.snd (Code.snd (Code.snd (Code.snd (Code.snd c8)))))))))))).1 (finK Try.prog Try.f8.results.toList) [] (finK Try.prog Try.f8.results.toList) (fun _ => stuckK) = fun s h => S8_4 call (s.rd 1) (s.rd 11) h := Eq.trans (seq_t (by kernel_rfl) (TS8_0 call) (seq_t (by kernel_rfl) (TS8_3 call) rfl)) (by funext s h; kernel_rfl)

noncomputable def S8_5 (call : CallF) (t1 : AV) (h : Heap) : Res :=
  S8_4 call t1 (.lit (.string ⟨⟨[40]⟩⟩)) h

theorem TS8_5 (call : CallF) : (rk Try.prog call 101 (Code.snd (Code.snd (Code.snd (Code.snd (Code.snd (Code.snd (Code.snd (Code.snd (Code.snd (Code.snd c8))))))))))).1 (finK Try.prog Try.f8.results.toList) [] (finK Try.prog Try.f8.results.toList) (fun _ => stuckK) = fun s h => S8_5 call (s.rd 1) h := Eq.trans (seq_t (by kernel_rfl) (TS8_4 call) rfl) (by funext s h; kernel_rfl)

noncomputable def S8_6 (call : CallF) (t0 : AV) (t1 : AV) (t9 : AV) (t10 : AV) (h : Heap) : Res :=
  opt (fastBin .gtr t0 (.lit (.int .i64 40))) fun t53 =>
  test t53
  (opt (fastBin .neq t9 (.lit (.int .i64 14))) fun t55 =>
  test t55
  (some ((.lit (.bool false)), h))
  (opt (fastBin .neq t10 (.lit (.int .i64 40))) fun t58 =>
  test t58
  (some ((.lit (.bool false)), h))
  (S8_5 call t1 h)))
  (opt (fastBin .neq t9 (.lit (.int .i64 0))) fun t61 =>
  test t61
  (some ((.lit (.bool false)), h))
  (S8_5 call t1 h))

theorem TS8_6 (call : CallF) : (rk Try.prog call 101 (Code.snd (Code.snd (Code.snd (Code.snd (Code.snd (Code.snd (Code.snd (Code.snd (Code.snd c8)))))))))).1 (finK Try.prog Try.f8.results.toList) [] (finK Try.prog Try.f8.results.toList) (fun _ => stuckK) = fun s h => S8_6 call (s.rd 0) (s.rd 1) (s.rd 9) (s.rd 10) h := Eq.trans (seq_t (by kernel_rfl) (TS8_5 call) rfl) (by funext s h; kernel_rfl)

noncomputable def S8_7 (call : CallF) (t0 : AV) (t1 : AV) (t5 : AV) (h : Heap) : Res :=
  opt2 (call 12 [t5] h) fun t48 h1 =>
  opt (extractX t48 0) fun t49 =>
  opt (extractX t48 1) fun t50 =>
  opt (extractX t48 2) fun t51 =>
  opt2 (box (.agg [(.lit (.int .i64 0)), (.lit (.int .i64 0)), (.lit (.string ⟨⟨[]⟩⟩)), (.lit (.slice none 0 0))]) h1) fun t8 h2 =>
  optH (storeX 4 t8 t49 h2) fun h3 =>
  S8_6 call t0 t1 t50 t51 h3

theorem TS8_7 (call : CallF) : (rk Try.prog call 101 (Code.snd (Code.snd (Code.snd (Code.snd (Code.snd (Code.snd (Code.snd (Code.snd c8))))))))).1 (finK Try.prog Try.f8.results.toList) [] (finK Try.prog Try.f8.results.toList) (fun _ => stuckK) = fun s h => S8_7 call (s.rd 0) (s.rd 1) (s.rd 5) h := Eq.trans (seq_t (by kernel_rfl) (TS8_6 call) rfl) (by funext s h; kernel_rfl)

noncomputable def S8_9b (call : CallF) (r8 : AV → AV → AV → AV → Heap → Res) (t0 : AV) (t1 : AV) (t5 : AV) (t7 : AV) (h : Heap) : Res :=
  opt (fastBin .lss t7 t0) fun t41 =>
  test t41
  (opt (fastBin .add t5 (.lit (.string ⟨⟨[41]⟩⟩))) fun t45 =>
  opt (fastBin .add t7 (.lit (.int .i64 1))) fun t43 =>
  r8 t0 t1 t45 t43 h)
  (S8_7 call t0 t1 t5 h)

theorem TS8_9b (call : CallF) (r8 : AV → AV → AV → AV → Heap → Res) : (rk Try.prog call 101 (Code.bd (Code.bd (Code.snd (Code.fst (Code.snd (Code.snd (Code.snd (Code.snd (Code.snd (Code.snd (Code.snd c8)))))))))))).1 (fun s h => r8 (s.rd 0) (s.rd 1) (s.rd 5) (s.rd 7) h) [(2, (fun s h => S8_7 call (s.rd 0) (s.rd 1) (s.rd 5) h))] (finK Try.prog Try.f8.results.toList) (fun _ => stuckK) = fun s h => S8_9b call r8 (s.rd 0) (s.rd 1) (s.rd 5) (s.rd 7) h := by funext s h; kernel_rfl

noncomputable def S8_8l (call : CallF) : Nat → AV → AV → AV → AV → Heap → Res
  | 0 => fun _ _ _ _ _ => none
  | k + 1 => S8_9b call (S8_8l call k)

theorem TS8_8l (call : CallF) : (rk Try.prog call 101 (Code.bd (Code.snd (Code.fst (Code.snd (Code.snd (Code.snd (Code.snd (Code.snd (Code.snd (Code.snd c8))))))))))).1 (fun s h => S8_7 call (s.rd 0) (s.rd 1) (s.rd 5) h) [(2, (fun s h => S8_7 call (s.rd 0) (s.rd 1) (s.rd 5) h))] (finK Try.prog Try.f8.results.toList) (fun _ => stuckK) = fun s h => S8_8l call rounds (s.rd 0) (s.rd 1) (s.rd 5) (s.rd 7) h :=
  loop_t (by kernel_rfl) (loop_ind (A := fun m => fun s h => S8_8l call m (s.rd 0) (s.rd 1) (s.rd 5) (s.rd 7) h) rfl (fun m => TS8_9b call (S8_8l call m)) rounds)

noncomputable def S8_10 (call : CallF) (t0 : AV) (t1 : AV) (t5 : AV) (t7 : AV) (h : Heap) : Res :=
  S8_8l call rounds t0 t1 t5 t7 h

theorem TS8_10 (call : CallF) : (rk Try.prog call 101 (Code.snd (Code.fst (Code.snd (Code.snd (Code.snd (Code.snd (Code.snd (Code.snd (Code.snd c8)))))))))).1 (fun s h => S8_7 call (s.rd 0) (s.rd 1) (s.rd 5) h) [] (finK Try.prog Try.f8.results.toList) (fun _ => stuckK) = fun s h => S8_10 call (s.rd 0) (s.rd 1) (s.rd 5) (s.rd 7) h := Eq.trans (block_t (id := 2) (by kernel_rfl) (TS8_8l call)) (by funext s h; kernel_rfl)

noncomputable def S8_11 (call : CallF) (t0 : AV) (t1 : AV) (t5 : AV) (h : Heap) : Res :=
  S8_10 call t0 t1 t5 (.lit (.int .i64 0)) h

theorem TS8_11 (call : CallF) : (rk Try.prog call 101 (Code.snd (Code.snd (Code.snd (Code.snd (Code.snd (Code.snd (Code.snd c8)))))))).1 (finK Try.prog Try.f8.results.toList) [] (finK Try.prog Try.f8.results.toList) (fun _ => stuckK) = fun s h => S8_11 call (s.rd 0) (s.rd 1) (s.rd 5) h := Eq.trans (seq_t (by kernel_rfl) (TS8_7 call) (seq_t (by kernel_rfl) (TS8_10 call) rfl)) (by funext s h; kernel_rfl)

noncomputable def S8_13b (call : CallF) (r12 : AV → AV → AV → AV → Heap → Res) (t0 : AV) (t1 : AV) (t5 : AV) (t6 : AV) (h : Heap) : Res :=
  opt (fastBin .lss t6 t0) fun t34 =>
  test t34
  (opt (fastBin .add t5 (.lit (.string ⟨⟨[40]⟩⟩))) fun t38 =>
  opt (fastBin .add t6 (.lit (.int .i64 1))) fun t36 =>
  r12 t0 t1 t38 t36 h)
  (S8_11 call t0 t1 t5 h)

theorem TS8_13b (call : CallF) (r12 : AV → AV → AV → AV → Heap → Res) : (rk Try.prog call 101 (Code.bd (Code.bd (Code.snd (Code.fst (Code.snd (Code.snd (Code.snd (Code.snd (Code.snd (Code.snd c8))))))))))).1 (fun s h => r12 (s.rd 0) (s.rd 1) (s.rd 5) (s.rd 6) h) [(0, (fun s h => S8_11 call (s.rd 0) (s.rd 1) (s.rd 5) h))] (finK Try.prog Try.f8.results.toList) (fun _ => stuckK) = fun s h => S8_13b call r12 (s.rd 0) (s.rd 1) (s.rd 5) (s.rd 6) h := by funext s h; kernel_rfl

noncomputable def S8_12l (call : CallF) : Nat → AV → AV → AV → AV → Heap → Res
  | 0 => fun _ _ _ _ _ => none
  | k + 1 => S8_13b call (S8_12l call k)

theorem TS8_12l (call : CallF) : (rk Try.prog call 101 (Code.bd (Code.snd (Code.fst (Code.snd (Code.snd (Code.snd (Code.snd (Code.snd (Code.snd c8)))))))))).1 (fun s h => S8_11 call (s.rd 0) (s.rd 1) (s.rd 5) h) [(0, (fun s h => S8_11 call (s.rd 0) (s.rd 1) (s.rd 5) h))] (finK Try.prog Try.f8.results.toList) (fun _ => stuckK) = fun s h => S8_12l call rounds (s.rd 0) (s.rd 1) (s.rd 5) (s.rd 6) h :=
  loop_t (by kernel_rfl) (loop_ind (A := fun m => fun s h => S8_12l call m (s.rd 0) (s.rd 1) (s.rd 5) (s.rd 6) h) rfl (fun m => TS8_13b call (S8_12l call m)) rounds)

noncomputable def S8_14 (call : CallF) (t0 : AV) (t1 : AV) (t5 : AV) (t6 : AV) (h : Heap) : Res :=
  S8_12l call rounds t0 t1 t5 t6 h

theorem TS8_14 (call : CallF) : (rk Try.prog call 101 (Code.snd (Code.fst (Code.snd (Code.snd (Code.snd (Code.snd (Code.snd (Code.snd c8))))))))).1 (fun s h => S8_11 call (s.rd 0) (s.rd 1) (s.rd 5) h) [] (finK Try.prog Try.f8.results.toList) (fun _ => stuckK) = fun s h => S8_14 call (s.rd 0) (s.rd 1) (s.rd 5) (s.rd 6) h := Eq.trans (block_t (id := 0) (by kernel_rfl) (TS8_12l call)) (by funext s h; kernel_rfl)

noncomputable def S8_15 (call : CallF) (t0 : AV) (t1 : AV) (t5 : AV) (h : Heap) : Res :=
  S8_14 call t0 t1 t5 (.lit (.int .i64 0)) h

theorem TS8_15 (call : CallF) : (rk Try.prog call 101 (Code.snd (Code.snd (Code.snd (Code.snd (Code.snd (Code.snd c8))))))).1 (finK Try.prog Try.f8.results.toList) [] (finK Try.prog Try.f8.results.toList) (fun _ => stuckK) = fun s h => S8_15 call (s.rd 0) (s.rd 1) (s.rd 5) h := Eq.trans (seq_t (by kernel_rfl) (TS8_11 call) (seq_t (by kernel_rfl) (TS8_14 call) rfl)) (by funext s h; kernel_rfl)

noncomputable def S8_16 (call : CallF) (t0 : AV) (t1 : AV) (h : Heap) : Res :=
  S8_15 call t0 t1 (.lit (.string ⟨⟨[]⟩⟩)) h

theorem TS8_16 (call : CallF) : (rk Try.prog call 101 (Code.snd (Code.snd (Code.snd (Code.snd (Code.snd c8)))))).1 (finK Try.prog Try.f8.results.toList) [] (finK Try.prog Try.f8.results.toList) (fun _ => stuckK) = fun s h => S8_16 call (s.rd 0) (s.rd 1) h := Eq.trans (seq_t (by kernel_rfl) (TS8_15 call) rfl) (by funext s h; kernel_rfl)

noncomputable def S8_17 (call : CallF) (t0 : AV) (t1 : AV) (h : Heap) : Res :=
  opt (binX Try.prog .none .rem 3 t1 (.lit (.int .i64 60))) fun t30 =>
  opt (fastBin .add (.lit (.int .i64 1)) t30) fun t31 =>
  S8_16 call t0 t31 h

theorem TS8_17 (call : CallF) : (rk Try.prog call 101 (Code.snd (Code.snd (Code.snd (Code.snd c8))))).1 (finK Try.prog Try.f8.results.toList) [] (finK Try.prog Try.f8.results.toList) (fun _ => stuckK) = fun s h => S8_17 call (s.rd 0) (s.rd 1) h := Eq.trans (seq_t (by kernel_rfl) (TS8_16 call) rfl) (by funext s h; kernel_rfl)

noncomputable def S8_18 (call : CallF) (t0 : AV) (t1 : AV) (h : Heap) : Res :=
  opt (binX Try.prog .none .rem 3 t0 (.lit (.int .i64 60))) fun t27 =>
  opt (fastBin .add (.lit (.int .i64 1)) t27) fun t28 =>
  S8_17 call t28 t1 h

theorem TS8_18 (call : CallF) : (rk Try.prog call 101 (Code.snd (Code.snd (Code.snd c8)))).1 (finK Try.prog Try.f8.results.toList) [] (finK Try.prog Try.f8.results.toList) (fun _ => stuckK) = fun s h => S8_18 call (s.rd 0) (s.rd 1) h := Eq.trans (seq_t (by kernel_rfl) (TS8_17 call) rfl) (by funext s h; kernel_rfl)

noncomputable def S8_19 (call : CallF) (t0 : AV) (t1 : AV) (h : Heap) : Res :=
  opt (fastBin .lss t1 (.lit (.int .i64 0))) fun t22 =>
  test t22
  (opt (fastBin .add t1 (.lit (.int .i64 1))) fun t24 =>
  opt (litUn Try.prog .neg t24) fun t25 =>
  S8_18 call t0 t25 h)
  (S8_18 call t0 t1 h)

theorem TS8_19 (call : CallF) : (rk Try.prog call 101 (Code.snd (Code.snd c8))).1 (finK Try.prog Try.f8.results.toList) [] (finK Try.prog Try.f8.results.toList) (fun _ => stuckK) = fun s h => S8_19 call (s.rd 0) (s.rd 1) h := Eq.trans (seq_t (by kernel_rfl) (TS8_18 call) rfl) (by funext s h; kernel_rfl)

noncomputable def S8_20 (call : CallF) (t0 : AV) (t1 : AV) (h : Heap) : Res :=
  opt (fastBin .lss t0 (.lit (.int .i64 0))) fun t17 =>
  test t17
  (opt (fastBin .add t0 (.lit (.int .i64 1))) fun t19 =>
  opt (litUn Try.prog .neg t19) fun t20 =>
  S8_19 call t20 t1 h)
  (S8_19 call t0 t1 h)

theorem TS8_20 (call : CallF) : (rk Try.prog call 101 (Code.snd c8)).1 (finK Try.prog Try.f8.results.toList) [] (finK Try.prog Try.f8.results.toList) (fun _ => stuckK) = fun s h => S8_20 call (s.rd 0) (s.rd 1) h := Eq.trans (seq_t (by kernel_rfl) (TS8_19 call) rfl) (by funext s h; kernel_rfl)

/-- hawser/hawserlaw4.TreeDeep -/
noncomputable def F8 (call : CallF) (a0 : AV) (a1 : AV) (h : Heap) : Res :=
  S8_20 call a0 a1 h

theorem TF8 (call : CallF) (a0 : AV) (a1 : AV) (h : Heap) : (rk Try.prog call 101 c8).1 (finK Try.prog Try.f8.results.toList) [] (finK Try.prog Try.f8.results.toList) (fun _ => stuckK) (argsTr gl 0 [a0, a1]) h = F8 call a0 a1 h := Eq.trans (congrFun (congrFun (seq_t (by kernel_rfl) (TS8_20 call) rfl) _) _) (by kernel_rfl)

noncomputable def N8 : FnF
  | call, [a0, a1], h => F8 call a0 a1 h
  | _, _, _ => none

theorem N8_ok : FnOk Try.prog gl 8 N8 := FnOk.of namesOk mixedOrders lowOk Try.func8 (by kernel_rfl) fun call args h r hF => by
  unfold N8 at hF
  split at hF
  · rw [← hF, ← TF8]; exact bodyK_at (by kernel_rfl) (by kernel_rfl) rfl rfl
  · cases hF

noncomputable def c9 : Code := codeOf Try.f9

noncomputable def S9_0 (call : CallF) (t12 : AV) (t15 : AV) (h : Heap) : Res :=
  opt (loadX (some 4) t12 h) fun t139 =>
  opt2 (call 13 [t139] h) fun t140 h1 =>
  opt (fastBin .add t15 (.lit (.string ⟨⟨[41]⟩⟩))) fun t142 =>
  opt (fastBin .eql t140 t142) fun t143 =>
  test t143
  (opt2 (call 14 [] h1) fun t145 h2 =>
  some (t145, h2))
  (some ((.lit (.bool false)), h1))

theorem TS9_0 (call : CallF) : (rk Try.prog call 147 (Code.snd (Code.snd (Code.snd (Code.snd (Code.snd (Code.snd (Code.snd (Code.snd (Code.snd c9)))))))))).1 (finK Try.prog Try.f9.results.toList) [] (finK Try.prog Try.f9.results.toList) (fun _ => stuckK) = fun s h => S9_0 call (s.rd 12) (s.rd 15) h := by funext s h; kernel_rfl

noncomputable def S9_2 (call : CallF) (r1 : AV → AV → AV → AV → Heap → Res) (t4 : AV) (t12 : AV) (t15 : AV) (t16 : AV) (h : Heap) : Res :=
  opt (fastBin .add t16 (.lit (.int .i64 1))) fun t101 =>
  r1 t4 t12 t15 t101 h

theorem TS9_2 (call : CallF) (r1 : AV → AV → AV → AV → Heap → Res) : (rk Try.prog call 147 (Code.snd (Code.snd (Code.bd (Code.bd (Code.snd (Code.fst (Code.snd (Code.snd (Code.snd (Code.snd (Code.snd (Code.snd (Code.snd (Code.snd c9))))))))))))))).1 (fun s h => r1 (s.rd 4) (s.rd 12) (s.rd 15) (s.rd 16) h) [(2, (fun s h => S9_0 call (s.rd 12) (s.rd 15) h))] (finK Try.prog Try.f9.results.toList) (fun _ => stuckK) = fun s h => S9_2 call r1 (s.rd 4) (s.rd 12) (s.rd 15) (s.rd 16) h := by funext s h; kernel_rfl

noncomputable def S9_3 (call : CallF) (r1 : AV → AV → AV → AV → Heap → Res) (t4 : AV) (t12 : AV) (t15 : AV) (t16 : AV) (h : Heap) : Res :=
  opt (indexAddrS 4 t4 t16 h) fun t109 =>
  opt (loadX (some 4) t109 h) fun t110 =>
  opt2 (call 13 [t110] h) fun t111 h1 =>
  opt (fastBin .add t15 t111) fun t112 =>
  opt (fieldAddrX 3 t12) fun t113 =>
  opt (loadX none t113 h1) fun t114 =>
  eqH h1 h1 (
  opt (indexAddrS 4 t114 t16 h1) fun t116 =>
  eqH h1 h1 (
  opt (loadX (some 4) t116 h1) fun t117 =>
  eqH h1 h1 (
  opt2 (call 13 [t117] h1) fun t118 h2 =>
  eqH h2 h1 (
  opt (indexAddrS 4 t4 t16 h1) fun t121 =>
  eqH h1 h1 (
  opt (loadX (some 4) t121 h1) fun t122 =>
  eqH h1 h1 (
  opt2 (call 13 [t122] h1) fun t123 h3 =>
  eqH h3 h1 (
  opt (fastBin .neq t118 t123) fun t124 =>
  test t124
  (some ((.lit (.bool false)), h1))
  (opt (fieldAddrX 3 t12) fun t126 =>
  opt (loadX none t126 h1) fun t127 =>
  eqH h1 h1 (
  opt (indexAddrS 4 t127 t16 h1) fun t129 =>
  eqH h1 h1 (
  opt (fieldAddrX 0 t129) fun t130 =>
  opt (loadX none t130 h1) fun t131 =>
  eqH h1 h1 (
  opt (indexAddrS 4 t4 t16 h1) fun t134 =>
  eqH h1 h1 (
  opt (fieldAddrX 0 t134) fun t135 =>
  opt (loadX none t135 h1) fun t136 =>
  eqH h1 h1 (
  opt (fastBin .neq t131 t136) fun t137 =>
  test t137
  (some ((.lit (.bool false)), h1))
  (S9_2 call r1 t4 t12 t112 t16 h1))))))))))))))

theorem TS9_3 (call : CallF) (r1 : AV → AV → AV → AV → Heap → Res) : (rk Try.prog call 147 (Code.snd (Code.bd (Code.fst (Code.snd (Code.bd (Code.bd (Code.snd (Code.fst (Code.snd (Code.snd (Code.snd (Code.snd (Code.snd (Code.snd (Code.snd (Code.snd c9))))))))))))))))).1 (fun s h => S9_2 call r1 (s.rd 4) (s.rd 12) (s.rd 15) (s.rd 16) h) [(3, (fun s h => S9_2 call r1 (s.rd 4) (s.rd 12) (s.rd 15) (s.rd 16) h)), (2, (fun s h => S9_0 call (s.rd 12) (s.rd 15) h))] (finK Try.prog Try.f9.results.toList) (fun _ => stuckK) = fun s h => S9_3 call r1 (s.rd 4) (s.rd 12) (s.rd 15) (s.rd 16) h := by funext s h; kernel_rfl

noncomputable def S9_4 (call : CallF) (r1 : AV → AV → AV → AV → Heap → Res) (t4 : AV) (t12 : AV) (t15 : AV) (t16 : AV) (h : Heap) : Res :=
  opt (fastBin .gtr t16 (.lit (.int .i64 0))) fun t103 =>
  test t103
  (opt (fastBin .add t15 (.lit (.string ⟨⟨[32]⟩⟩))) fun t105 =>
  S9_3 call r1 t4 t12 t105 t16 h)
  (S9_3 call r1 t4 t12 t15 t16 h)

theorem TS9_4 (call : CallF) (r1 : AV → AV → AV → AV → Heap → Res) : (rk Try.prog call 147 (Code.snd (Code.bd (Code.bd (Code.snd (Code.fst (Code.snd (Code.snd (Code.snd (Code.snd (Code.snd (Code.snd (Code.snd (Code.snd c9)))))))))))))).1 (fun s h => r1 (s.rd 4) (s.rd 12) (s.rd 15) (s.rd 16) h) [(2, (fun s h => S9_0 call (s.rd 12) (s.rd 15) h))] (finK Try.prog Try.f9.results.toList) (fun _ => stuckK) = fun s h => S9_4 call r1 (s.rd 4) (s.rd 12) (s.rd 15) (s.rd 16) h := Eq.trans (seq_t (by kernel_rfl) (TS9_2 call r1) (block_t (id := 3) (by kernel_rfl) (seq_t (by kernel_rfl) (TS9_3 call r1) rfl))) (by funext s h; kernel_rfl)

noncomputable def S9_5b (call : CallF) (r1 : AV → AV → AV → AV → Heap → Res) (t4 : AV) (t12 : AV) (t15 : AV) (t16 : AV) (h : Heap) : Res :=
  opt (lenS t4) fun t98 =>
  opt (fastBin .lss t16 t98) fun t99 =>
  test t99
  (S9_4 call r1 t4 t12 t15 t16 h)
  (S9_0 call t12 t15 h)

theorem TS9_5b (call : CallF) (r1 : AV → AV → AV → AV → Heap → Res) : (rk Try.prog call 147 (Code.bd (Code.bd (Code.snd (Code.fst (Code.snd (Code.snd (Code.snd (Code.snd (Code.snd (Code.snd (Code.snd (Code.snd c9))))))))))))).1 (fun s h => r1 (s.rd 4) (s.rd 12) (s.rd 15) (s.rd 16) h) [(2, (fun s h => S9_0 call (s.rd 12) (s.rd 15) h))] (finK Try.prog Try.f9.results.toList) (fun _ => stuckK) = fun s h => S9_5b call r1 (s.rd 4) (s.rd 12) (s.rd 15) (s.rd 16) h := Eq.trans (seq_t (by kernel_rfl) (TS9_4 call r1) rfl) (by funext s h; kernel_rfl)

noncomputable def S9_1l (call : CallF) : Nat → AV → AV → AV → AV → Heap → Res
  | 0 => fun _ _ _ _ _ => none
  | k + 1 => S9_5b call (S9_1l call k)

theorem TS9_1l (call : CallF) : (rk Try.prog call 147 (Code.bd (Code.snd (Code.fst (Code.snd (Code.snd (Code.snd (Code.snd (Code.snd (Code.snd (Code.snd (Code.snd c9)))))))))))).1 (fun s h => S9_0 call (s.rd 12) (s.rd 15) h) [(2, (fun s h => S9_0 call (s.rd 12) (s.rd 15) h))] (finK Try.prog Try.f9.results.toList) (fun _ => stuckK) = fun s h => S9_1l call rounds (s.rd 4) (s.rd 12) (s.rd 15) (s.rd 16) h :=
  loop_t (by kernel_rfl) (loop_ind (A := fun m => fun s h => S9_1l call m (s.rd 4) (s.rd 12) (s.rd 15) (s.rd 16) h) rfl (fun m => TS9_5b call (S9_1l call m)) rounds)

noncomputable def S9_6 (call : CallF) (t4 : AV) (t12 : AV) (t15 : AV) (t16 : AV) (h : Heap) : Res :=
  S9_1l call rounds t4 t12 t15 t16 h

theorem TS9_6 (call : CallF) : (rk Try.prog call 147 (Code.snd (Code.fst (Code.snd (Code.snd (Code.snd (Code.snd (Code.snd (Code.snd (Code.snd (Code.snd c9))))))))))).1 (fun s h => S9_0 call (s.rd 12) (s.rd 15) h) [] (finK Try.prog Try.f9.results.toList) (fun _ => stuckK) = fun s h => S9_6 call (s.rd 4) (s.rd 12) (s.rd 15) (s.rd 16) h := Eq.trans (block_t (id := 2) (by kernel_rfl) (TS9_1l call)) (by funext s h; kernel_rfl)

noncomputable def S9_7 (call : CallF) (t4 : AV) (t12 : AV) (t15 : AV) (h : Heap) : Res :=
  S9_6 call t4 t12 t15 (.lit (.int .i64 0)) h

theorem TS9_7 (call : CallF) : (rk Try.prog call 147 (Code.snd (Code.snd (Code.snd (Code.snd (Code.snd (Code.snd (Code.snd (Code.snd c9))))))))).1 (finK Try.prog Try.f9.results.toList) [] (finK Try.prog Try.f9.results.toList) (fun _ => stuckK) = fun s h => S9_7 call (s.rd 4) (s.rd 12) (s.rd 15) h := Eq.trans (seq_t (by kernel_rfl) (TS9_0 call) (seq_t (by kernel_rfl) (TS9_6 call) rfl)) (by funext s h; kernel_rfl)

noncomputable def S9_8 (call : CallF) (t4 : AV) (t12 : AV) (h : Heap) : Res :=
  S9_7 call t4 t12 (.lit (.string ⟨⟨[40]⟩⟩)) h

theorem TS9_8 (call : CallF) : (rk Try.prog call 147 (Code.snd (Code.snd (Code.snd (Code.snd (Code.snd (Code.snd (Code.snd c9)))))))).1 (finK Try.prog Try.f9.results.toList) [] (finK Try.prog Try.f9.results.toList) (fun _ => stuckK) = fun s h => S9_8 call (s.rd 4) (s.rd 12) h := Eq.trans (seq_t (by kernel_rfl) (TS9_7 call) rfl) (by funext s h; kernel_rfl)

noncomputable def S9_9 (call : CallF) (t4 : AV) (t12 : AV) (t13 : AV) (h : Heap) : Res :=
  opt (fastBin .neq t13 (.lit (.int .i64 0))) fun t82 =>
  test t82
  (some ((.lit (.bool false)), h))
  (opt (fieldAddrX 0 t12) fun t84 =>
  opt (loadX none t84 h) fun t85 =>
  opt (fastBin .neq t85 (.lit (.int .i64 1))) fun t86 =>
  test t86
  (some ((.lit (.bool false)), h))
  (opt (fieldAddrX 3 t12) fun t89 =>
  opt (loadX none t89 h) fun t90 =>
  opt (lenS t90) fun t91 =>
  opt (lenS t4) fun t93 =>
  opt (fastBin .neq t91 t93) fun t94 =>
  test t94
  (some ((.lit (.bool false)), h))
  (S9_8 call t4 t12 h)))

theorem TS9_9 (call : CallF) : (rk Try.prog call 147 (Code.snd (Code.snd (Code.snd (Code.snd (Code.snd (Code.snd c9))))))).1 (finK Try.prog Try.f9.results.toList) [] (finK Try.prog Try.f9.results.toList) (fun _ => stuckK) = fun s h => S9_9 call (s.rd 4) (s.rd 12) (s.rd 13) h := Eq.trans (seq_t (by kernel_rfl) (TS9_8 call) rfl) (by funext s h; kernel_rfl)

noncomputable def S9_10 (call : CallF) (t4 : AV) (t12 : AV) (t13 : AV) (h : Heap) : Res :=
  opt (fastBin .eql t13 (.lit (.int .i64 14))) fun t79 =>
  test t79
  (opt2 (call 14 [] h) fun t80 h1 =>
  some (t80, h1))
  (S9_9 call t4 t12 t13 h)

theorem TS9_10 (call : CallF) : (rk Try.prog call 147 (Code.snd (Code.snd (Code.snd (Code.snd (Code.snd c9)))))).1 (finK Try.prog Try.f9.results.toList) [] (finK Try.prog Try.f9.results.toList) (fun _ => stuckK) = fun s h => S9_10 call (s.rd 4) (s.rd 12) (s.rd 13) h := Eq.trans (seq_t (by kernel_rfl) (TS9_9 call) rfl) (by funext s h; kernel_rfl)

noncomputable def S9_11 (call : CallF) (t3 : AV) (t4 : AV) (h : Heap) : Res :=
  opt (fastBin .add t3 (.lit (.string ⟨⟨[41]⟩⟩))) fun t73 =>
  opt2 (call 12 [t73] h) fun t74 h1 =>
  opt (extractX t74 0) fun t75 =>
  opt (extractX t74 1) fun t76 =>
  opt (extractX t74 2) fun t77 =>
  opt2 (box (.agg [(.lit (.int .i64 0)), (.lit (.int .i64 0)), (.lit (.string ⟨⟨[]⟩⟩)), (.lit (.slice none 0 0))]) h1) fun t12 h2 =>
  optH (storeX 4 t12 t75 h2) fun h3 =>
  S9_10 call t4 t12 t76 h3

theorem TS9_11 (call : CallF) : (rk Try.prog call 147 (Code.snd (Code.snd (Code.snd (Code.snd c9))))).1 (finK Try.prog Try.f9.results.toList) [] (finK Try.prog Try.f9.results.toList) (fun _ => stuckK) = fun s h => S9_11 call (s.rd 3) (s.rd 4) h := Eq.trans (seq_t (by kernel_rfl) (TS9_10 call) rfl) (by funext s h; kernel_rfl)

noncomputable def S9_13 (call : CallF) (r12 : AV → AV → AV → AV → Heap → Res) (t0 : AV) (t3 : AV) (t4 : AV) (t5 : AV) (h : Heap) : Res :=
  opt (fastBin .add t5 (.lit (.int .i64 1))) fun t26 =>
  r12 t0 t3 t4 t26 h

theorem TS9_13 (call : CallF) (r12 : AV → AV → AV → AV → Heap → Res) : (rk Try.prog call 147 (Code.snd (Code.snd (Code.bd (Code.bd (Code.snd (Code.fst (Code.snd (Code.snd (Code.snd c9)))))))))).1 (fun s h => r12 (s.rd 0) (s.rd 3) (s.rd 4) (s.rd 5) h) [(0, (fun s h => S9_11 call (s.rd 3) (s.rd 4) h))] (finK Try.prog Try.f9.results.toList) (fun _ => stuckK) = fun s h => S9_13 call r12 (s.rd 0) (s.rd 3) (s.rd 4) (s.rd 5) h := by funext s h; kernel_rfl

noncomputable def S9_14 (call : CallF) (r12 : AV → AV → AV → AV → Heap → Res) (t0 : AV) (t3 : AV) (t4 : AV) (t5 : AV) (t6 : AV) (h : Heap) : Res :=
  opt (loadX (some 4) t6 h) fun t63 =>
  opt2 (bsliceX 4 (.agg [(.lit (.int .i64 0)), (.lit (.int .i64 0)), (.lit (.string ⟨⟨[]⟩⟩)), (.lit (.slice none 0 0))]) 1 [(0, t63)] h) fun t64 h1 =>
  opt2 (appendX 4 56 t4 t64 h1) fun t65 h2 =>
  opt (fastBin .add t3 (.lit (.string ⟨⟨[32]⟩⟩))) fun t67 =>
  opt (loadX (some 4) t6 h2) fun t68 =>
  opt2 (call 13 [t68] h2) fun t69 h3 =>
  opt (fastBin .add t67 t69) fun t70 =>
  S9_13 call r12 t0 t70 t65 t5 h3

theorem TS9_14 (call : CallF) (r12 : AV → AV → AV → AV → Heap → Res) : (rk Try.prog call 147 (Code.snd (Code.snd (Code.snd (Code.bd (Code.fst (Code.snd (Code.bd (Code.bd (Code.snd (Code.fst (Code.snd (Code.snd (Code.snd c9)))))))))))))).1 (fun s h => S9_13 call r12 (s.rd 0) (s.rd 3) (s.rd 4) (s.rd 5) h) [(1, (fun s h => S9_13 call r12 (s.rd 0) (s.rd 3) (s.rd 4) (s.rd 5) h)), (0, (fun s h => S9_11 call (s.rd 3) (s.rd 4) h))] (finK Try.prog Try.f9.results.toList) (fun _ => stuckK) = fun s h => S9_14 call r12 (s.rd 0) (s.rd 3) (s.rd 4) (s.rd 5) (s.rd 6) h := by funext s h; kernel_rfl

noncomputable def S9_15 (call : CallF) (r12 : AV → AV → AV → AV → Heap → Res) (t0 : AV) (t3 : AV) (t4 : AV) (t5 : AV) (t6 : AV) (t7 : AV) (t9 : AV) (t10 : AV) (h : Heap) : Res :=
  opt (fastBin .neq t7 (.lit (.int .i64 0))) fun t44 =>
  test t44
  (S9_13 call r12 t0 t3 t4 t5 h)
  (opt (fastBin .neq t10 (.lit (.int .i64 0))) fun t47 =>
  test t47
  (S9_13 call r12 t0 t3 t4 t5 h)
  (opt (loadX (some 4) t6 h) fun t50 =>
  eqH h h (
  opt2 (call 13 [t50] h) fun t51 h1 =>
  eqH h1 h (
  opt (lenStr t51) fun t52 =>
  opt (fastBin .gtr t52 (.lit (.int .i64 500))) fun t53 =>
  test t53
  (S9_13 call r12 t0 t3 t4 t5 h)
  (opt (loadX (some 4) t9 h) fun t56 =>
  eqH h h (
  opt2 (call 13 [t56] h) fun t57 h2 =>
  eqH h2 h (
  opt (loadX (some 4) t6 h) fun t58 =>
  eqH h h (
  opt2 (call 13 [t58] h) fun t59 h3 =>
  eqH h3 h (
  opt (fastBin .neq t57 t59) fun t60 =>
  test t60
  (S9_13 call r12 t0 t3 t4 t5 h)
  (S9_14 call r12 t0 t3 t4 t5 t6 h))))))))))

theorem TS9_15 (call : CallF) (r12 : AV → AV → AV → AV → Heap → Res) : (rk Try.prog call 147 (Code.snd (Code.snd (Code.bd (Code.fst (Code.snd (Code.bd (Code.bd (Code.snd (Code.fst (Code.snd (Code.snd (Code.snd c9))))))))))))).1 (fun s h => S9_13 call r12 (s.rd 0) (s.rd 3) (s.rd 4) (s.rd 5) h) [(1, (fun s h => S9_13 call r12 (s.rd 0) (s.rd 3) (s.rd 4) (s.rd 5) h)), (0, (fun s h => S9_11 call (s.rd 3) (s.rd 4) h))] (finK Try.prog Try.f9.results.toList) (fun _ => stuckK) = fun s h => S9_15 call r12 (s.rd 0) (s.rd 3) (s.rd 4) (s.rd 5) (s.rd 6) (s.rd 7) (s.rd 9) (s.rd 10) h := Eq.trans (seq_t (by kernel_rfl) (TS9_14 call r12) rfl) (by funext s h; kernel_rfl)

noncomputable def S9_16 (call : CallF) (r12 : AV → AV → AV → AV → Heap → Res) (t0 : AV) (t3 : AV) (t4 : AV) (t5 : AV) (t6 : AV) (t7 : AV) (h : Heap) : Res :=
  opt (loadX (some 4) t6 h) fun t37 =>
  opt2 (call 13 [t37] h) fun t38 h1 =>
  opt2 (call 12 [t38] h1) fun t39 h2 =>
  opt (extractX t39 0) fun t40 =>
  opt (extractX t39 1) fun t41 =>
  opt (extractX t39 2) fun t42 =>
  opt2 (box (.agg [(.lit (.int .i64 0)), (.lit (.int .i64 0)), (.lit (.string ⟨⟨[]⟩⟩)), (.lit (.slice none 0 0))]) h2) fun t9 h3 =>
  optH (storeX 4 t9 t40 h3) fun h4 =>
  S9_15 call r12 t0 t3 t4 t5 t6 t7 t9 t41 h4

theorem TS9_16 (call : CallF) (r12 : AV → AV → AV → AV → Heap → Res) : (rk Try.prog call 147 (Code.snd (Code.bd (Code.fst (Code.snd (Code.bd (Code.bd (Code.snd (Code.fst (Code.snd (Code.snd (Code.snd c9)))))))))))).1 (fun s h => S9_13 call r12 (s.rd 0) (s.rd 3) (s.rd 4) (s.rd 5) h) [(1, (fun s h => S9_13 call r12 (s.rd 0) (s.rd 3) (s.rd 4) (s.rd 5) h)), (0, (fun s h => S9_11 call (s.rd 3) (s.rd 4) h))] (finK Try.prog Try.f9.results.toList) (fun _ => stuckK) = fun s h => S9_16 call r12 (s.rd 0) (s.rd 3) (s.rd 4) (s.rd 5) (s.rd 6) (s.rd 7) h := Eq.trans (seq_t (by kernel_rfl) (TS9_15 call r12) rfl) (by funext s h; kernel_rfl)

noncomputable def S9_17 (call : CallF) (r12 : AV → AV → AV → AV → Heap → Res) (t0 : AV) (t3 : AV) (t4 : AV) (t5 : AV) (h : Heap) : Res :=
  opt (indexAddrS 1 t0 t5 h) fun t30 =>
  opt (loadX none t30 h) fun t31 =>
  opt2 (call 12 [t31] h) fun t32 h1 =>
  opt (extractX t32 0) fun t33 =>
  opt (extractX t32 1) fun t34 =>
  opt (extractX t32 2) fun t35 =>
  opt2 (box (.agg [(.lit (.int .i64 0)), (.lit (.int .i64 0)), (.lit (.string ⟨⟨[]⟩⟩)), (.lit (.slice none 0 0))]) h1) fun t6 h2 =>
  optH (storeX 4 t6 t33 h2) fun h3 =>
  S9_16 call r12 t0 t3 t4 t5 t6 t34 h3

theorem TS9_17 (call : CallF) (r12 : AV → AV → AV → AV → Heap → Res) : (rk Try.prog call 147 (Code.snd (Code.bd (Code.bd (Code.snd (Code.fst (Code.snd (Code.snd (Code.snd c9))))))))).1 (fun s h => r12 (s.rd 0) (s.rd 3) (s.rd 4) (s.rd 5) h) [(0, (fun s h => S9_11 call (s.rd 3) (s.rd 4) h))] (finK Try.prog Try.f9.results.toList) (fun _ => stuckK) = fun s h => S9_17 call r12 (s.rd 0) (s.rd 3) (s.rd 4) (s.rd 5) h := Eq.trans (seq_t (by kernel_rfl) (TS9_13 call r12) (block_t (id := 1) (by kernel_rfl) (seq_t (by kernel_rfl) (TS9_16 call r12) rfl))) (by funext s h; kernel_rfl)

noncomputable def S9_18b (call : CallF) (r12 : AV → AV → AV → AV → Heap → Res) (t0 : AV) (t3 : AV) (t4 : AV) (t5 : AV) (h : Heap) : Res :=
  opt (lenS t0) fun t19 =>
  opt (fastBin .lss t5 t19) fun t20 =>
  test t20
  (opt (fastBin .lss t5 (.lit (.int .i64 8))) fun t23 =>
  test t23
  (S9_17 call r12 t0 t3 t4 t5 h)
  (S9_11 call t3 t4 h))
  (S9_11 call t3 t4 h)

theorem TS9_18b (call : CallF) (r12 : AV → AV → AV → AV → Heap → Res) : (rk Try.prog call 147 (Code.bd (Code.bd (Code.snd (Code.fst (Code.snd (Code.snd (Code.snd c9)))))))).1 (fun s h => r12 (s.rd 0) (s.rd 3) (s.rd 4) (s.rd 5) h) [(0, (fun s h => S9_11 call (s.rd 3) (s.rd 4) h))] (finK Try.prog Try.f9.results.toList) (fun _ => stuckK) = fun s h => S9_18b call r12 (s.rd 0) (s.rd 3) (s.rd 4) (s.rd 5) h := Eq.trans (seq_t (by kernel_rfl) (TS9_17 call r12) rfl) (by funext s h; kernel_rfl)

noncomputable def S9_12l (call : CallF) : Nat → AV → AV → AV → AV → Heap → Res
  | 0 => fun _ _ _ _ _ => none
  | k + 1 => S9_18b call (S9_12l call k)

theorem TS9_12l (call : CallF) : (rk Try.prog call 147 (Code.bd (Code.snd (Code.fst (Code.snd (Code.snd (Code.snd c9))))))).1 (fun s h => S9_11 call (s.rd 3) (s.rd 4) h) [(0, (fun s h => S9_11 call (s.rd 3) (s.rd 4) h))] (finK Try.prog Try.f9.results.toList) (fun _ => stuckK) = fun s h => S9_12l call rounds (s.rd 0) (s.rd 3) (s.rd 4) (s.rd 5) h :=
  loop_t (by kernel_rfl) (loop_ind (A := fun m => fun s h => S9_12l call m (s.rd 0) (s.rd 3) (s.rd 4) (s.rd 5) h) rfl (fun m => TS9_18b call (S9_12l call m)) rounds)

noncomputable def S9_19 (call : CallF) (t0 : AV) (t3 : AV) (t4 : AV) (t5 : AV) (h : Heap) : Res :=
  S9_12l call rounds t0 t3 t4 t5 h

theorem TS9_19 (call : CallF) : (rk Try.prog call 147 (Code.snd (Code.fst (Code.snd (Code.snd (Code.snd c9)))))).1 (fun s h => S9_11 call (s.rd 3) (s.rd 4) h) [] (finK Try.prog Try.f9.results.toList) (fun _ => stuckK) = fun s h => S9_19 call (s.rd 0) (s.rd 3) (s.rd 4) (s.rd 5) h := Eq.trans (block_t (id := 0) (by kernel_rfl) (TS9_12l call)) (by funext s h; kernel_rfl)

noncomputable def S9_20 (call : CallF) (t0 : AV) (t3 : AV) (t4 : AV) (h : Heap) : Res :=
  S9_19 call t0 t3 t4 (.lit (.int .i64 0)) h

theorem TS9_20 (call : CallF) : (rk Try.prog call 147 (Code.snd (Code.snd (Code.snd c9)))).1 (finK Try.prog Try.f9.results.toList) [] (finK Try.prog Try.f9.results.toList) (fun _ => stuckK) = fun s h => S9_20 call (s.rd 0) (s.rd 3) (s.rd 4) h := Eq.trans (seq_t (by kernel_rfl) (TS9_11 call) (seq_t (by kernel_rfl) (TS9_19 call) rfl)) (by funext s h; kernel_rfl)

noncomputable def S9_21 (call : CallF) (t0 : AV) (t3 : AV) (h : Heap) : Res :=
  S9_20 call t0 t3 (.lit (.slice none 0 0)) h

theorem TS9_21 (call : CallF) : (rk Try.prog call 147 (Code.snd (Code.snd c9))).1 (finK Try.prog Try.f9.results.toList) [] (finK Try.prog Try.f9.results.toList) (fun _ => stuckK) = fun s h => S9_21 call (s.rd 0) (s.rd 3) h := Eq.trans (seq_t (by kernel_rfl) (TS9_20 call) rfl) (by funext s h; kernel_rfl)

noncomputable def S9_22 (call : CallF) (t0 : AV) (h : Heap) : Res :=
  S9_21 call t0 (.lit (.string ⟨⟨[40]⟩⟩)) h

theorem TS9_22 (call : CallF) : (rk Try.prog call 147 (Code.snd c9)).1 (finK Try.prog Try.f9.results.toList) [] (finK Try.prog Try.f9.results.toList) (fun _ => stuckK) = fun s h => S9_22 call (s.rd 0) h := Eq.trans (seq_t (by kernel_rfl) (TS9_21 call) rfl) (by funext s h; kernel_rfl)

/-- hawser/hawserlaw4.TreeKids -/
noncomputable def F9 (call : CallF) (a0 : AV) (h : Heap) : Res :=
  S9_22 call a0 h

theorem TF9 (call : CallF) (a0 : AV) (h : Heap) : (rk Try.prog call 147 c9).1 (finK Try.prog Try.f9.results.toList) [] (finK Try.prog Try.f9.results.toList) (fun _ => stuckK) (argsTr gl 0 [a0]) h = F9 call a0 h := Eq.trans (congrFun (congrFun (seq_t (by kernel_rfl) (TS9_22 call) rfl) _) _) (by kernel_rfl)

noncomputable def N9 : FnF
  | call, [a0], h => F9 call a0 h
  | _, _, _ => none

theorem N9_ok : FnOk Try.prog gl 9 N9 := FnOk.of namesOk mixedOrders lowOk Try.func9 (by kernel_rfl) fun call args h r hF => by
  unfold N9 at hF
  split at hF
  · rw [← hF, ← TF9]; exact bodyK_at (by kernel_rfl) (by kernel_rfl) rfl rfl
  · cases hF

noncomputable def c12 : Code := codeOf Try.f12

noncomputable def S12_0 (call : CallF) (t0 : AV) (t2 : AV) (t8 : AV) (t9 : AV) (h : Heap) : Res :=
  opt (lenS t8) fun t125 =>
  opt (fastBin .gtr t125 (.lit (.int .i64 0))) fun t126 =>
  test t126
  (opt (buildX [(.lit (.int .i64 0)), (.lit (.int .i64 0)), (.lit (.string ⟨⟨[]⟩⟩)), (.lit (.slice none 0 0))] [(0, 1), (1, 1), (2, 1), (3, 1)] []) fun t127 =>
  opt (lenStr t0) fun t129 =>
  optH (storeX 4 t2 t127 h) fun h1 =>
  opt (loadX (some 4) t2 h1) fun res =>
  some ((.tup [res, (.lit (.int .i64 10)), t129]), h1))
  (opt (indexAddrS 4 t9 (.lit (.int .i64 0)) h) fun t131 =>
  opt (loadX (some 4) t131 h) fun t132 =>
  optH (storeX 4 t2 t132 h) fun h2 =>
  opt (loadX (some 4) t2 h2) fun res_1 =>
  some ((.tup [res_1, (.lit (.int .i64 0)), (.lit (.int .i64 0))]), h2))

theorem TS12_0 (call : CallF) : (rk Try.prog call 133 (Code.snd (Code.snd (Code.snd (Code.snd (Code.snd (Code.snd (Code.snd c12)))))))).1 (finK Try.prog Try.f12.results.toList) [] (finK Try.prog Try.f12.results.toList) (fun _ => stuckK) = fun s h => S12_0 call (s.rd 0) (s.rd 2) (s.rd 8) (s.rd 9) h := by funext s h; kernel_rfl

noncomputable def S12_2 (call : CallF) (r1 : AV → AV → AV → AV → AV → AV → AV → Heap → Res) (t0 : AV) (t2 : AV) (t8 : AV) (t9 : AV) (t12 : AV) (t31 : AV) (t32 : AV) (t33 : AV) (h : Heap) : Res :=
  opt (lenS t8) fun t101 =>
  opt (fastBin .eql t101 (.lit (.int .i64 0))) fun t102 =>
  test t102
  (opt (loadX (some 4) t12 h) fun t104 =>
  opt2 (bsliceX 4 (.agg [(.lit (.int .i64 0)), (.lit (.int .i64 0)), (.lit (.string ⟨⟨[]⟩⟩)), (.lit (.slice none 0 0))]) 1 [(0, t104)] h) fun t105 h1 =>
  opt2 (appendX 4 56 t9 t105 h1) fun t106 h2 =>
  opt (fastBin .add t33 (.lit (.int .i64 1))) fun t123 =>
  r1 t0 t2 t8 t106 t31 t32 t123 h2)
  (opt (lenS t8) fun t109 =>
  opt (fastBin .sub t109 (.lit (.int .i64 1))) fun t110 =>
  opt (indexAddrS 4 t8 t110 h) fun t111 =>
  opt (nilCheckX t111) fun t113 =>
  opt (fieldAddrX 3 t113) fun t114 =>
  opt (loadX none t114 h) fun t115 =>
  eqH h h (
  opt (loadX (some 4) t12 h) fun t116 =>
  eqH h h (
  opt (lenS t115) fun t117 =>
  opt2 (bsliceX 4 (.agg [(.lit (.int .i64 0)), (.lit (.int .i64 0)), (.lit (.string ⟨⟨[]⟩⟩)), (.lit (.slice none 0 0))]) 1 [(0, (.agg [(.lit (.int .i64 0)), (.lit (.int .i64 0)), (.lit (.string ⟨⟨[]⟩⟩)), (.lit (.slice none 0 0))]))] h) fun t118 h3 =>
  eqH h3 h (
  opt2 (appendX 4 56 t115 t118 h) fun t119 h4 =>
  opt (indexAddrS 4 t119 t117 h4) fun t120 =>
  eqH h4 h4 (
  optH (storeX 4 t120 t116 h4) fun h5 =>
  opt (nilCheckX t111) fun t121 =>
  opt (fieldAddrX 3 t121) fun t122 =>
  optH (storeX 1 t122 t119 h4) fun h6 =>
  optH (storeX 1 t122 t119 h5) fun h7 =>
  eqK (.lit undef) (.lit undef) (
  optH (storeX 4 t120 t116 h6) fun h8 =>
  eqK (.lit undef) (.lit undef) (eqH h8 h7 (
  opt (indexAddrS 4 t119 t117 h6) fun t120_1 =>
  eqK t120_1 t120 (eqH h6 h6 (
  opt (fastBin .add t33 (.lit (.int .i64 1))) fun t123_1 =>
  r1 t0 t2 t8 t9 t31 t32 t123_1 h7))))))))))

theorem TS12_2 (call : CallF) (r1 : AV → AV → AV → AV → AV → AV → AV → Heap → Res) : (rk Try.prog call 133 (Code.snd (Code.snd (Code.snd (Code.bd (Code.fst (Code.snd (Code.snd (Code.bd (Code.bd (Code.snd (Code.fst (Code.snd (Code.snd (Code.snd (Code.snd (Code.snd (Code.snd c12)))))))))))))))))).1 ((rk Try.prog call 133 (Code.snd (Code.snd (Code.snd (Code.bd (Code.bd (Code.snd (Code.fst (Code.snd (Code.snd (Code.snd (Code.snd (Code.snd (Code.snd c12)))))))))))))).1 (fun s h => r1 (s.rd 0) (s.rd 2) (s.rd 8) (s.rd 9) (s.rd 31) (s.rd 32) (s.rd 33) h) [(0, (fun s h => S12_0 call (s.rd 0) (s.rd 2) (s.rd 8) (s.rd 9) h))] (finK Try.prog Try.f12.results.toList) (fun _ => stuckK)) [(1, ((rk Try.prog call 133 (Code.snd (Code.snd (Code.snd (Code.bd (Code.bd (Code.snd (Code.fst (Code.snd (Code.snd (Code.snd (Code.snd (Code.snd (Code.snd c12)))))))))))))).1 (fun s h => r1 (s.rd 0) (s.rd 2) (s.rd 8) (s.rd 9) (s.rd 31) (s.rd 32) (s.rd 33) h) [(0, (fun s h => S12_0 call (s.rd 0) (s.rd 2) (s.rd 8) (s.rd 9) h))] (finK Try.prog Try.f12.results.toList) (fun _ => stuckK))), (0, (fun s h => S12_0 call (s.rd 0) (s.rd 2) (s.rd 8) (s.rd 9) h))] (finK Try.prog Try.f12.results.toList) (fun _ => stuckK) = fun s h => S12_2 call r1 (s.rd 0) (s.rd 2) (s.rd 8) (s.rd 9) (s.rd 12) (s.rd 31) (s.rd 32) (s.rd 33) h := by funext s h; kernel_rfl

noncomputable def S12_3 (call : CallF) (r1 : AV → AV → AV → AV → AV → AV → AV → Heap → Res) (t0 : AV) (t2 : AV) (t8 : AV) (t9 : AV) (t11 : AV) (t12 : AV) (t31 : AV) (t32 : AV) (t33 : AV) (t56 : AV) (h : Heap) : Res :=
  test t56
  (opt (buildX [(.lit (.int .i64 0)), (.lit (.int .i64 0)), (.lit (.string ⟨⟨[]⟩⟩)), (.lit (.slice none 0 0))] [(0, 1), (1, 1), (2, 1), (3, 1)] []) fun t65 =>
  opt (fieldAddrX 1 t11) fun t66 =>
  opt (loadX none t66 h) fun t67 =>
  eqH h h (
  optH (storeX 4 t2 t65 h) fun h1 =>
  opt (loadX none t66 h1) fun t67_1 =>
  eqK t67_1 t67 (eqH h1 h1 (
  opt (loadX (some 4) t2 h1) fun res =>
  some ((.tup [res, (.lit (.int .i64 12)), t67]), h1)))))
  (opt (lenS t9) fun t70 =>
  opt (fastBin .gtr t70 (.lit (.int .i64 0))) fun t71 =>
  test t71
  (opt (buildX [(.lit (.int .i64 0)), (.lit (.int .i64 0)), (.lit (.string ⟨⟨[]⟩⟩)), (.lit (.slice none 0 0))] [(0, 1), (1, 1), (2, 1), (3, 1)] []) fun t72 =>
  opt (fieldAddrX 1 t11) fun t73 =>
  opt (loadX none t73 h) fun t74 =>
  eqH h h (
  optH (storeX 4 t2 t72 h) fun h2 =>
  opt (loadX none t73 h2) fun t74_1 =>
  eqK t74_1 t74 (eqH h2 h2 (
  opt (loadX (some 4) t2 h2) fun res_1 =>
  some ((.tup [res_1, (.lit (.int .i64 11)), t74]), h2)))))
  (opt (fieldAddrX 0 t11) fun t76 =>
  opt (loadX none t76 h) fun t77 =>
  opt (fastBin .eql t77 (.lit (.int .i64 1))) fun t78 =>
  test t78
  (opt (fieldAddrX 1 t11) fun t80 =>
  opt (loadX none t80 h) fun t81 =>
  opt (buildX [(.lit (.int .i64 0)), (.lit (.int .i64 0)), (.lit (.string ⟨⟨[]⟩⟩)), (.lit (.slice none 0 0))] [(0, 1), (1, 1), (2, 1), (3, 1)] [(0, (.lit (.int .i64 1))), (1, t81)]) fun t82 =>
  opt2 (bsliceX 4 (.agg [(.lit (.int .i64 0)), (.lit (.int .i64 0)), (.lit (.string ⟨⟨[]⟩⟩)), (.lit (.slice none 0 0))]) 1 [(0, t82)] h) fun t83 h3 =>
  opt2 (appendX 4 56 t8 t83 h3) fun t84 h4 =>
  opt (fastBin .add t33 (.lit (.int .i64 1))) fun t123 =>
  r1 t0 t2 t84 t9 t31 t32 t123 h4)
  (opt (fieldAddrX 0 t11) fun t86 =>
  opt (loadX none t86 h) fun t87 =>
  opt (fastBin .eql t87 (.lit (.int .i64 2))) fun t88 =>
  test t88
  (opt (lenS t8) fun t91 =>
  opt (fastBin .sub t91 (.lit (.int .i64 1))) fun t92 =>
  opt (indexAddrS 4 t8 t92 h) fun t93 =>
  opt (loadX (some 4) t93 h) fun t94 =>
  optH (storeX 4 t12 t94 h) fun h5 =>
  opt (lenS t8) fun t97 =>
  opt (fastBin .sub t97 (.lit (.int .i64 1))) fun t98 =>
  opt (cutX 4 t8 none (some t98) none h5) fun t99 =>
  S12_2 call r1 t0 t2 t99 t9 t12 t31 t32 t33 h5)
  (opt (fieldAddrX 0 t11) fun t37 =>
  opt (loadX none t37 h) fun t38 =>
  opt (fieldAddrX 1 t11) fun t39 =>
  opt (loadX none t39 h) fun t40 =>
  opt (fieldAddrX 2 t11) fun t41 =>
  opt (loadX none t41 h) fun t42 =>
  opt (buildX [(.lit (.int .i64 0)), (.lit (.int .i64 0)), (.lit (.string ⟨⟨[]⟩⟩)), (.lit (.slice none 0 0))] [(0, 1), (1, 1), (2, 1), (3, 1)] [(0, t38), (1, t40), (2, t42)]) fun t43 =>
  optH (storeX 4 t12 t43 h) fun h6 =>
  S12_2 call r1 t0 t2 t8 t9 t12 t31 t32 t33 h6))))

theorem TS12_3 (call : CallF) (r1 : AV → AV → AV → AV → AV → AV → AV → Heap → Res) : (rk Try.prog call 133 (Code.snd (Code.els (Code.snd (Code.bd (Code.fst (Code.snd (Code.snd (Code.bd (Code.fst (Code.snd (Code.snd (Code.bd (Code.bd (Code.snd (Code.fst (Code.snd (Code.snd (Code.snd (Code.snd (Code.snd (Code.snd c12)))))))))))))))))))))).1 (fun s h => S12_2 call r1 (s.rd 0) (s.rd 2) (s.rd 8) (s.rd 9) (s.rd 12) (s.rd 31) (s.rd 32) (s.rd 33) h) [(2, (fun s h => S12_2 call r1 (s.rd 0) (s.rd 2) (s.rd 8) (s.rd 9) (s.rd 12) (s.rd 31) (s.rd 32) (s.rd 33) h)), (1, ((rk Try.prog call 133 (Code.snd (Code.snd (Code.snd (Code.bd (Code.bd (Code.snd (Code.fst (Code.snd (Code.snd (Code.snd (Code.snd (Code.snd (Code.snd c12)))))))))))))).1 (fun s h => r1 (s.rd 0) (s.rd 2) (s.rd 8) (s.rd 9) (s.rd 31) (s.rd 32) (s.rd 33) h) [(0, (fun s h => S12_0 call (s.rd 0) (s.rd 2) (s.rd 8) (s.rd 9) h))] (finK Try.prog Try.f12.results.toList) (fun _ => stuckK))), (0, (fun s h => S12_0 call (s.rd 0) (s.rd 2) (s.rd 8) (s.rd 9) h))] (finK Try.prog Try.f12.results.toList) (fun _ => stuckK) = fun s h => S12_3 call r1 (s.rd 0) (s.rd 2) (s.rd 8) (s.rd 9) (s.rd 11) (s.rd 12) (s.rd 31) (s.rd 32) (s.rd 33) (s.rd 56) h := by funext s h; kernel_rfl

noncomputable def S12_4 (call : CallF) (r1 : AV → AV → AV → AV → AV → AV → AV → Heap → Res) (t0 : AV) (t2 : AV) (t8 : AV) (t9 : AV) (t11 : AV) (t12 : AV) (t31 : AV) (t32 : AV) (t33 : AV) (h : Heap) : Res :=
  opt (fieldAddrX 0 t11) fun t57 =>
  opt (loadX none t57 h) fun t58 =>
  opt (fastBin .eql t58 (.lit (.int .i64 2))) fun t59 =>
  test t59
  (opt (lenS t8) fun t62 =>
  opt (fastBin .eql t62 (.lit (.int .i64 0))) fun t63 =>
  S12_3 call r1 t0 t2 t8 t9 t11 t12 t31 t32 t33 t63 h)
  (S12_3 call r1 t0 t2 t8 t9 t11 t12 t31 t32 t33 (.lit (.bool false)) h)

theorem TS12_4 (call : CallF) (r1 : AV → AV → AV → AV → AV → AV → AV → Heap → Res) : (rk Try.prog call 133 (Code.els (Code.snd (Code.bd (Code.fst (Code.snd (Code.snd (Code.bd (Code.fst (Code.snd (Code.snd (Code.bd (Code.bd (Code.snd (Code.fst (Code.snd (Code.snd (Code.snd (Code.snd (Code.snd (Code.snd c12))))))))))))))))))))).1 (fun s h => S12_2 call r1 (s.rd 0) (s.rd 2) (s.rd 8) (s.rd 9) (s.rd 12) (s.rd 31) (s.rd 32) (s.rd 33) h) [(2, (fun s h => S12_2 call r1 (s.rd 0) (s.rd 2) (s.rd 8) (s.rd 9) (s.rd 12) (s.rd 31) (s.rd 32) (s.rd 33) h)), (1, ((rk Try.prog call 133 (Code.snd (Code.snd (Code.snd (Code.bd (Code.bd (Code.snd (Code.fst (Code.snd (Code.snd (Code.snd (Code.snd (Code.snd (Code.snd c12)))))))))))))).1 (fun s h => r1 (s.rd 0) (s.rd 2) (s.rd 8) (s.rd 9) (s.rd 31) (s.rd 32) (s.rd 33) h) [(0, (fun s h => S12_0 call (s.rd 0) (s.rd 2) (s.rd 8) (s.rd 9) h))] (finK Try.prog Try.f12.results.toList) (fun _ => stuckK))), (0, (fun s h => S12_0 call (s.rd 0) (s.rd 2) (s.rd 8) (s.rd 9) h))] (finK Try.prog Try.f12.results.toList) (fun _ => stuckK) = fun s h => S12_4 call r1 (s.rd 0) (s.rd 2) (s.rd 8) (s.rd 9) (s.rd 11) (s.rd 12) (s.rd 31) (s.rd 32) (s.rd 33) h := Eq.trans (seq_t (by kernel_rfl) (TS12_3 call r1) rfl) (by funext s h; kernel_rfl)

noncomputable def S12_5 (call : CallF) (r1 : AV → AV → AV → AV → AV → AV → AV → Heap → Res) (t0 : AV) (t2 : AV) (t8 : AV) (t9 : AV) (t11 : AV) (t12 : AV) (t31 : AV) (t32 : AV) (t33 : AV) (t44 : AV) (h : Heap) : Res :=
  test t44
  (opt (buildX [(.lit (.int .i64 0)), (.lit (.int .i64 0)), (.lit (.string ⟨⟨[]⟩⟩)), (.lit (.slice none 0 0))] [(0, 1), (1, 1), (2, 1), (3, 1)] []) fun t53 =>
  opt (fieldAddrX 1 t11) fun t54 =>
  opt (loadX none t54 h) fun t55 =>
  eqH h h (
  optH (storeX 4 t2 t53 h) fun h1 =>
  opt (loadX none t54 h1) fun t55_1 =>
  eqK t55_1 t55 (eqH h1 h1 (
  opt (loadX (some 4) t2 h1) fun res =>
  some ((.tup [res, (.lit (.int .i64 14)), t55]), h1)))))
  (S12_4 call r1 t0 t2 t8 t9 t11 t12 t31 t32 t33 h)

theorem TS12_5 (call : CallF) (r1 : AV → AV → AV → AV → AV → AV → AV → Heap → Res) : (rk Try.prog call 133 (Code.snd (Code.bd (Code.fst (Code.snd (Code.snd (Code.bd (Code.fst (Code.snd (Code.snd (Code.bd (Code.bd (Code.snd (Code.fst (Code.snd (Code.snd (Code.snd (Code.snd (Code.snd (Code.snd c12)))))))))))))))))))).1 (fun s h => S12_2 call r1 (s.rd 0) (s.rd 2) (s.rd 8) (s.rd 9) (s.rd 12) (s.rd 31) (s.rd 32) (s.rd 33) h) [(2, (fun s h => S12_2 call r1 (s.rd 0) (s.rd 2) (s.rd 8) (s.rd 9) (s.rd 12) (s.rd 31) (s.rd 32) (s.rd 33) h)), (1, ((rk Try.prog call 133 (Code.snd (Code.snd (Code.snd (Code.bd (Code.bd (Code.snd (Code.fst (Code.snd (Code.snd (Code.snd (Code.snd (Code.snd (Code.snd c12)))))))))))))).1 (fun s h => r1 (s.rd 0) (s.rd 2) (s.rd 8) (s.rd 9) (s.rd 31) (s.rd 32) (s.rd 33) h) [(0, (fun s h => S12_0 call (s.rd 0) (s.rd 2) (s.rd 8) (s.rd 9) h))] (finK Try.prog Try.f12.results.toList) (fun _ => stuckK))), (0, (fun s h => S12_0 call (s.rd 0) (s.rd 2) (s.rd 8) (s.rd 9) h))] (finK Try.prog Try.f12.results.toList) (fun _ => stuckK) = fun s h => S12_5 call r1 (s.rd 0) (s.rd 2) (s.rd 8) (s.rd 9) (s.rd 11) (s.rd 12) (s.rd 31) (s.rd 32) (s.rd 33) (s.rd 44) h := Eq.trans (cond_t (by kernel_rfl) rfl (TS12_4 call r1)) (by funext s h; kernel_rfl)

noncomputable def S12_6 (call : CallF) (r1 : AV → AV → AV → AV → AV → AV → AV → Heap → Res) (t0 : AV) (t2 : AV) (t8 : AV) (t9 : AV) (t11 : AV) (t12 : AV) (t31 : AV) (t32 : AV) (t33 : AV) (h : Heap) : Res :=
  opt (fieldAddrX 0 t11) fun t45 =>
  opt (loadX none t45 h) fun t46 =>
  opt (fastBin .eql t46 (.lit (.int .i64 1))) fun t47 =>
  test t47
  (opt (lenS t8) fun t50 =>
  opt (fastBin .geq t50 (.lit (.int .i64 40))) fun t51 =>
  S12_5 call r1 t0 t2 t8 t9 t11 t12 t31 t32 t33 t51 h)
  (S12_5 call r1 t0 t2 t8 t9 t11 t12 t31 t32 t33 (.lit (.bool false)) h)

theorem TS12_6 (call : CallF) (r1 : AV → AV → AV → AV → AV → AV → AV → Heap → Res) : (rk Try.prog call 133 (Code.snd (Code.snd (Code.bd (Code.fst (Code.snd (Code.snd (Code.bd (Code.bd (Code.snd (Code.fst (Code.snd (Code.snd (Code.snd (Code.snd (Code.snd (Code.snd c12))))))))))))))))).1 ((rk Try.prog call 133 (Code.snd (Code.snd (Code.snd (Code.bd (Code.bd (Code.snd (Code.fst (Code.snd (Code.snd (Code.snd (Code.snd (Code.snd (Code.snd c12)))))))))))))).1 (fun s h => r1 (s.rd 0) (s.rd 2) (s.rd 8) (s.rd 9) (s.rd 31) (s.rd 32) (s.rd 33) h) [(0, (fun s h => S12_0 call (s.rd 0) (s.rd 2) (s.rd 8) (s.rd 9) h))] (finK Try.prog Try.f12.results.toList) (fun _ => stuckK)) [(1, ((rk Try.prog call 133 (Code.snd (Code.snd (Code.snd (Code.bd (Code.bd (Code.snd (Code.fst (Code.snd (Code.snd (Code.snd (Code.snd (Code.snd (Code.snd c12)))))))))))))).1 (fun s h => r1 (s.rd 0) (s.rd 2) (s.rd 8) (s.rd 9) (s.rd 31) (s.rd 32) (s.rd 33) h) [(0, (fun s h => S12_0 call (s.rd 0) (s.rd 2) (s.rd 8) (s.rd 9) h))] (finK Try.prog Try.f12.results.toList) (fun _ => stuckK))), (0, (fun s h => S12_0 call (s.rd 0) (s.rd 2) (s.rd 8) (s.rd 9) h))] (finK Try.prog Try.f12.results.toList) (fun _ => stuckK) = fun s h => S12_6 call r1 (s.rd 0) (s.rd 2) (s.rd 8) (s.rd 9) (s.rd 11) (s.rd 12) (s.rd 31) (s.rd 32) (s.rd 33) h := Eq.trans (seq_t (by kernel_rfl) (TS12_2 call r1) (block_t (id := 2) (by kernel_rfl) (seq_t (by kernel_rfl) (TS12_5 call r1) rfl))) (by funext s h; kernel_rfl)

noncomputable def S12_7 (call : CallF) (r1 : AV → AV → AV → AV → AV → AV → AV → Heap → Res) (t0 : AV) (t2 : AV) (t8 : AV) (t9 : AV) (t11 : AV) (t31 : AV) (t32 : AV) (t33 : AV) (h : Heap) : Res :=
  opt2 (box (.agg [(.lit (.int .i64 0)), (.lit (.int .i64 0)), (.lit (.string ⟨⟨[]⟩⟩)), (.lit (.slice none 0 0))]) h) fun t12 h1 =>
  S12_6 call r1 t0 t2 t8 t9 t11 t12 t31 t32 t33 h1

theorem TS12_7 (call : CallF) (r1 : AV → AV → AV → AV → AV → AV → AV → Heap → Res) : (rk Try.prog call 133 (Code.snd (Code.bd (Code.fst (Code.snd (Code.snd (Code.bd (Code.bd (Code.snd (Code.fst (Code.snd (Code.snd (Code.snd (Code.snd (Code.snd (Code.snd c12)))))))))))))))).1 ((rk Try.prog call 133 (Code.snd (Code.snd (Code.snd (Code.bd (Code.bd (Code.snd (Code.fst (Code.snd (Code.snd (Code.snd (Code.snd (Code.snd (Code.snd c12)))))))))))))).1 (fun s h => r1 (s.rd 0) (s.rd 2) (s.rd 8) (s.rd 9) (s.rd 31) (s.rd 32) (s.rd 33) h) [(0, (fun s h => S12_0 call (s.rd 0) (s.rd 2) (s.rd 8) (s.rd 9) h))] (finK Try.prog Try.f12.results.toList) (fun _ => stuckK)) [(1, ((rk Try.prog call 133 (Code.snd (Code.snd (Code.snd (Code.bd (Code.bd (Code.snd (Code.fst (Code.snd (Code.snd (Code.snd (Code.snd (Code.snd (Code.snd c12)))))))))))))).1 (fun s h => r1 (s.rd 0) (s.rd 2) (s.rd 8) (s.rd 9) (s.rd 31) (s.rd 32) (s.rd 33) h) [(0, (fun s h => S12_0 call (s.rd 0) (s.rd 2) (s.rd 8) (s.rd 9) h))] (finK Try.prog Try.f12.results.toList) (fun _ => stuckK))), (0, (fun s h => S12_0 call (s.rd 0) (s.rd 2) (s.rd 8) (s.rd 9) h))] (finK Try.prog Try.f12.results.toList) (fun _ => stuckK) = fun s h => S12_7 call r1 (s.rd 0) (s.rd 2) (s.rd 8) (s.rd 9) (s.rd 11) (s.rd 31) (s.rd 32) (s.rd 33) h := Eq.trans (seq_t (by kernel_rfl) (TS12_6 call r1) rfl) (by funext s h; kernel_rfl)

noncomputable def S12_8 (call : CallF) (r1 : AV → AV → AV → AV → AV → AV → AV → Heap → Res) (t0 : AV) (t2 : AV) (t8 : AV) (t9 : AV) (t31 : AV) (t32 : AV) (t33 : AV) (h : Heap) : Res :=
  opt (indexAddrS 3 t31 t33 h) fun t35 =>
  opt (loadX (some 3) t35 h) fun t36 =>
  opt2 (box (.agg [(.lit (.int .i64 0)), (.lit (.int .i64 0)), (.lit (.string ⟨⟨[]⟩⟩))]) h) fun t11 h1 =>
  optH (storeX 3 t11 t36 h1) fun h2 =>
  S12_7 call r1 t0 t2 t8 t9 t11 t31 t32 t33 h2

theorem TS12_8 (call : CallF) (r1 : AV → AV → AV → AV → AV → AV → AV → Heap → Res) : (rk Try.prog call 133 (Code.snd (Code.snd (Code.bd (Code.bd (Code.snd (Code.fst (Code.snd (Code.snd (Code.snd (Code.snd (Code.snd (Code.snd c12))))))))))))).1 (fun s h => r1 (s.rd 0) (s.rd 2) (s.rd 8) (s.rd 9) (s.rd 31) (s.rd 32) (s.rd 33) h) [(0, (fun s h => S12_0 call (s.rd 0) (s.rd 2) (s.rd 8) (s.rd 9) h))] (finK Try.prog Try.f12.results.toList) (fun _ => stuckK) = fun s h => S12_8 call r1 (s.rd 0) (s.rd 2) (s.rd 8) (s.rd 9) (s.rd 31) (s.rd 32) (s.rd 33) h := Eq.trans (seq_t (by kernel_rfl) rfl (block_t (id := 1) (by kernel_rfl) (seq_t (by kernel_rfl) (TS12_7 call r1) rfl))) (by funext s h; kernel_rfl)

noncomputable def S12_9 (call : CallF) (r1 : AV → AV → AV → AV → AV → AV → AV → Heap → Res) (t0 : AV) (t2 : AV) (t8 : AV) (t9 : AV) (t31 : AV) (t32 : AV) (t33 : AV) (t34 : AV) (h : Heap) : Res :=
  test t34
  (S12_8 call r1 t0 t2 t8 t9 t31 t32 t33 h)
  (S12_0 call t0 t2 t8 t9 h)

theorem TS12_9 (call : CallF) (r1 : AV → AV → AV → AV → AV → AV → AV → Heap → Res) : (rk Try.prog call 133 (Code.snd (Code.bd (Code.bd (Code.snd (Code.fst (Code.snd (Code.snd (Code.snd (Code.snd (Code.snd (Code.snd c12)))))))))))).1 (fun s h => r1 (s.rd 0) (s.rd 2) (s.rd 8) (s.rd 9) (s.rd 31) (s.rd 32) (s.rd 33) h) [(0, (fun s h => S12_0 call (s.rd 0) (s.rd 2) (s.rd 8) (s.rd 9) h))] (finK Try.prog Try.f12.results.toList) (fun _ => stuckK) = fun s h => S12_9 call r1 (s.rd 0) (s.rd 2) (s.rd 8) (s.rd 9) (s.rd 31) (s.rd 32) (s.rd 33) (s.rd 34) h := Eq.trans (seq_t (by kernel_rfl) (TS12_8 call r1) rfl) (by funext s h; kernel_rfl)

noncomputable def S12_10b (call : CallF) (r1 : AV → AV → AV → AV → AV → AV → AV → Heap → Res) (t0 : AV) (t2 : AV) (t8 : AV) (t9 : AV) (t31 : AV) (t32 : AV) (t33 : AV) (h : Heap) : Res :=
  opt (fastBin .lss t33 t32) fun t34 =>
  S12_9 call r1 t0 t2 t8 t9 t31 t32 t33 t34 h

theorem TS12_10b (call : CallF) (r1 : AV → AV → AV → AV → AV → AV → AV → Heap → Res) : (rk Try.prog call 133 (Code.bd (Code.bd (Code.snd (Code.fst (Code.snd (Code.snd (Code.snd (Code.snd (Code.snd (Code.snd c12))))))))))).1 (fun s h => r1 (s.rd 0) (s.rd 2) (s.rd 8) (s.rd 9) (s.rd 31) (s.rd 32) (s.rd 33) h) [(0, (fun s h => S12_0 call (s.rd 0) (s.rd 2) (s.rd 8) (s.rd 9) h))] (finK Try.prog Try.f12.results.toList) (fun _ => stuckK) = fun s h => S12_10b call r1 (s.rd 0) (s.rd 2) (s.rd 8) (s.rd 9) (s.rd 31) (s.rd 32) (s.rd 33) h := Eq.trans (seq_t (by kernel_rfl) (TS12_9 call r1) rfl) (by funext s h; kernel_rfl)

noncomputable def S12_1l (call : CallF) : Nat → AV → AV → AV → AV → AV → AV → AV → Heap → Res
  | 0 => fun _ _ _ _ _ _ _ _ => none
  | k + 1 => S12_10b call (S12_1l call k)

theorem TS12_1l (call : CallF) : (rk Try.prog call 133 (Code.bd (Code.snd (Code.fst (Code.snd (Code.snd (Code.snd (Code.snd (Code.snd (Code.snd c12)))))))))).1 (fun s h => S12_0 call (s.rd 0) (s.rd 2) (s.rd 8) (s.rd 9) h) [(0, (fun s h => S12_0 call (s.rd 0) (s.rd 2) (s.rd 8) (s.rd 9) h))] (finK Try.prog Try.f12.results.toList) (fun _ => stuckK) = fun s h => S12_1l call rounds (s.rd 0) (s.rd 2) (s.rd 8) (s.rd 9) (s.rd 31) (s.rd 32) (s.rd 33) h :=
  loop_t (by kernel_rfl) (loop_ind (A := fun m => fun s h => S12_1l call m (s.rd 0) (s.rd 2) (s.rd 8) (s.rd 9) (s.rd 31) (s.rd 32) (s.rd 33) h) rfl (fun m => TS12_10b call (S12_1l call m)) rounds)

noncomputable def S12_11 (call : CallF) (t0 : AV) (t2 : AV) (t8 : AV) (t9 : AV) (t31 : AV) (t32 : AV) (t33 : AV) (h : Heap) : Res :=
  S12_1l call rounds t0 t2 t8 t9 t31 t32 t33 h

theorem TS12_11 (call : CallF) : (rk Try.prog call 133 (Code.snd (Code.fst (Code.snd (Code.snd (Code.snd (Code.snd (Code.snd (Code.snd c12))))))))).1 (fun s h => S12_0 call (s.rd 0) (s.rd 2) (s.rd 8) (s.rd 9) h) [] (finK Try.prog Try.f12.results.toList) (fun _ => stuckK) = fun s h => S12_11 call (s.rd 0) (s.rd 2) (s.rd 8) (s.rd 9) (s.rd 31) (s.rd 32) (s.rd 33) h := Eq.trans (block_t (id := 0) (by kernel_rfl) (TS12_1l call)) (by funext s h; kernel_rfl)

noncomputable def S12_12 (call : CallF) (t0 : AV) (t2 : AV) (t5 : AV) (t8 : AV) (t9 : AV) (h : Heap) : Res :=
  opt (lenS t5) fun t32 =>
  S12_11 call t0 t2 t8 t9 t5 t32 (.lit (.int .i64 0)) h

theorem TS12_12 (call : CallF) : (rk Try.prog call 133 (Code.snd (Code.snd (Code.snd (Code.snd (Code.snd (Code.snd c12))))))).1 (finK Try.prog Try.f12.results.toList) [] (finK Try.prog Try.f12.results.toList) (fun _ => stuckK) = fun s h => S12_12 call (s.rd 0) (s.rd 2) (s.rd 5) (s.rd 8) (s.rd 9) h := Eq.trans (seq_t (by kernel_rfl) (TS12_0 call) (seq_t (by kernel_rfl) (TS12_11 call) rfl)) (by funext s h; kernel_rfl)

noncomputable def S12_13 (call : CallF) (t0 : AV) (t2 : AV) (t5 : AV) (t8 : AV) (h : Heap) : Res :=
  S12_12 call t0 t2 t5 t8 (.lit (.slice none 0 0)) h

theorem TS12_13 (call : CallF) : (rk Try.prog call 133 (Code.snd (Code.snd (Code.snd (Code.snd (Code.snd c12)))))).1 (finK Try.prog Try.f12.results.toList) [] (finK Try.prog Try.f12.results.toList) (fun _ => stuckK) = fun s h => S12_13 call (s.rd 0) (s.rd 2) (s.rd 5) (s.rd 8) h := Eq.trans (seq_t (by kernel_rfl) (TS12_12 call) rfl) (by funext s h; kernel_rfl)

noncomputable def S12_14 (call : CallF) (t0 : AV) (t2 : AV) (t5 : AV) (h : Heap) : Res :=
  S12_13 call t0 t2 t5 (.lit (.slice none 0 0)) h

theorem TS12_14 (call : CallF) : (rk Try.prog call 133 (Code.snd (Code.snd (Code.snd (Code.snd c12))))).1 (finK Try.prog Try.f12.results.toList) [] (finK Try.prog Try.f12.results.toList) (fun _ => stuckK) = fun s h => S12_14 call (s.rd 0) (s.rd 2) (s.rd 5) h := Eq.trans (seq_t (by kernel_rfl) (TS12_13 call) rfl) (by funext s h; kernel_rfl)

noncomputable def S12_15 (call : CallF) (t0 : AV) (t2 : AV) (t5 : AV) (h : Heap) : Res :=
  opt (lenS t5) fun t26 =>
  opt (fastBin .eql t26 (.lit (.int .i64 0))) fun t27 =>
  test t27
  (opt (buildX [(.lit (.int .i64 0)), (.lit (.int .i64 0)), (.lit (.string ⟨⟨[]⟩⟩)), (.lit (.slice none 0 0))] [(0, 1), (1, 1), (2, 1), (3, 1)] []) fun t28 =>
  opt (lenStr t0) fun t30 =>
  optH (storeX 4 t2 t28 h) fun h1 =>
  opt (loadX (some 4) t2 h1) fun res =>
  some ((.tup [res, (.lit (.int .i64 12)), t30]), h1))
  (S12_14 call t0 t2 t5 h)

theorem TS12_15 (call : CallF) : (rk Try.prog call 133 (Code.snd (Code.snd (Code.snd c12)))).1 (finK Try.prog Try.f12.results.toList) [] (finK Try.prog Try.f12.results.toList) (fun _ => stuckK) = fun s h => S12_15 call (s.rd 0) (s.rd 2) (s.rd 5) h := Eq.trans (seq_t (by kernel_rfl) (TS12_14 call) rfl) (by funext s h; kernel_rfl)

noncomputable def S12_16 (call : CallF) (t0 : AV) (t2 : AV) (t5 : AV) (t6 : AV) (t7 : AV) (h : Heap) : Res :=
  opt (fastBin .neq t6 (.lit (.int .i64 0))) fun t21 =>
  test t21
  (opt (buildX [(.lit (.int .i64 0)), (.lit (.int .i64 0)), (.lit (.string ⟨⟨[]⟩⟩)), (.lit (.slice none 0 0))] [(0, 1), (1, 1), (2, 1), (3, 1)] []) fun t22 =>
  optH (storeX 4 t2 t22 h) fun h1 =>
  opt (loadX (some 4) t2 h1) fun res =>
  some ((.tup [res, t6, t7]), h1))
  (S12_15 call t0 t2 t5 h)

theorem TS12_16 (call : CallF) : (rk Try.prog call 133 (Code.snd (Code.snd c12))).1 (finK Try.prog Try.f12.results.toList) [] (finK Try.prog Try.f12.results.toList) (fun _ => stuckK) = fun s h => S12_16 call (s.rd 0) (s.rd 2) (s.rd 5) (s.rd 6) (s.rd 7) h := Eq.trans (seq_t (by kernel_rfl) (TS12_15 call) rfl) (by funext s h; kernel_rfl)

noncomputable def S12_17 (call : CallF) (t0 : AV) (t2 : AV) (h : Heap) : Res :=
  opt2 (call 10 [t0] h) fun t16 h1 =>
  opt (extractX t16 0) fun t17 =>
  opt (extractX t16 1) fun t18 =>
  opt (extractX t16 2) fun t19 =>
  S12_16 call t0 t2 t17 t18 t19 h1

theorem TS12_17 (call : CallF) : (rk Try.prog call 133 (Code.snd c12)).1 (finK Try.prog Try.f12.results.toList) [] (finK Try.prog Try.f12.results.toList) (fun _ => stuckK) = fun s h => S12_17 call (s.rd 0) (s.rd 2) h := Eq.trans (seq_t (by kernel_rfl) (TS12_16 call) rfl) (by funext s h; kernel_rfl)

/-- hawser/tree.Parse -/
noncomputable def F12 (call : CallF) (a0 : AV) (h : Heap) : Res :=
  opt2 (box (.agg [(.lit (.int .i64 0)), (.lit (.int .i64 0)), (.lit (.string ⟨⟨[]⟩⟩)), (.lit (.slice none 0 0))]) h) fun t2 h1 =>
  S12_17 call a0 t2 h1

theorem TF12 (call : CallF) (a0 : AV) (h : Heap) : (rk Try.prog call 133 c12).1 (finK Try.prog Try.f12.results.toList) [] (finK Try.prog Try.f12.results.toList) (fun _ => stuckK) (argsTr gl 0 [a0]) h = F12 call a0 h := Eq.trans (congrFun (congrFun (seq_t (by kernel_rfl) (TS12_17 call) rfl) _) _) (by kernel_rfl)

noncomputable def N12 : FnF
  | call, [a0], h => F12 call a0 h
  | _, _, _ => none

theorem N12_ok : FnOk Try.prog gl 12 N12 := FnOk.of namesOk mixedOrders lowOk Try.func12 (by kernel_rfl) fun call args h r hF => by
  unfold N12 at hF
  split at hF
  · rw [← hF, ← TF12]; exact bodyK_at (by kernel_rfl) (by kernel_rfl) rfl rfl
  · cases hF

noncomputable def c13 : Code := codeOf Try.f13

noncomputable def S13_0 (call : CallF) (h : Heap) : Res :=
  some ((.lit (.string ⟨⟨[]⟩⟩)), h)

theorem TS13_0 (call : CallF) : (rk Try.prog call 36 (Code.snd (Code.snd c13))).1 (finK Try.prog Try.f13.results.toList) [] (finK Try.prog Try.f13.results.toList) (fun _ => stuckK) = fun s h => S13_0 call h := by funext s h; kernel_rfl

noncomputable def S13_1 (call : CallF) (t3 : AV) (h : Heap) : Res :=
  opt2 (call 24 [t3, (.lit (.string ⟨⟨[32]⟩⟩))] h) fun t33 h1 =>
  opt (fastBin .add (.lit (.string ⟨⟨[40]⟩⟩)) t33) fun t34 =>
  opt (fastBin .add t34 (.lit (.string ⟨⟨[41]⟩⟩))) fun t35 =>
  some (t35, h1)

theorem TS13_1 (call : CallF) : (rk Try.prog call 36 (Code.snd (Code.snd (Code.thn (Code.snd (Code.els (Code.snd (Code.els (Code.snd (Code.bd (Code.snd (Code.fst (Code.snd c13))))))))))))).1 (fun s h => S13_0 call h) [(0, (fun s h => S13_0 call h))] (finK Try.prog Try.f13.results.toList) (fun _ => stuckK) = fun s h => S13_1 call (s.rd 3) h := by funext s h; kernel_rfl

noncomputable def S13_3b (call : CallF) (r2 : AV → AV → AV → AV → Heap → Res) (t3 : AV) (t20 : AV) (t21 : AV) (t22 : AV) (h : Heap) : Res :=
  opt (fastBin .lss t22 t21) fun t23 =>
  test t23
  (opt (indexAddrS 4 t20 t22 h) fun t24 =>
  opt (loadX (some 4) t24 h) fun t25 =>
  opt2 (box (.agg [(.lit (.int .i64 0)), (.lit (.int .i64 0)), (.lit (.string ⟨⟨[]⟩⟩)), (.lit (.slice none 0 0))]) h) fun t5 h1 =>
  optH (storeX 4 t5 t25 h1) fun h2 =>
  opt (loadX (some 4) t5 h2) fun t27 =>
  opt2 (call 13 [t27] h2) fun t28 h3 =>
  opt2 (bsliceX 1 (.lit (.string ⟨⟨[]⟩⟩)) 1 [(0, t28)] h3) fun t29 h4 =>
  opt2 (appendX 1 16 t3 t29 h4) fun t30 h5 =>
  opt (fastBin .add t22 (.lit (.int .i64 1))) fun t31 =>
  r2 t30 t20 t21 t31 h5)
  (S13_1 call t3 h)

theorem TS13_3b (call : CallF) (r2 : AV → AV → AV → AV → Heap → Res) : (rk Try.prog call 36 (Code.bd (Code.bd (Code.snd (Code.fst (Code.snd (Code.thn (Code.snd (Code.els (Code.snd (Code.els (Code.snd (Code.bd (Code.snd (Code.fst (Code.snd c13)))))))))))))))).1 (fun s h => r2 (s.rd 3) (s.rd 20) (s.rd 21) (s.rd 22) h) [(1, (fun s h => S13_1 call (s.rd 3) h)), (0, (fun s h => S13_0 call h))] (finK Try.prog Try.f13.results.toList) (fun _ => stuckK) = fun s h => S13_3b call r2 (s.rd 3) (s.rd 20) (s.rd 21) (s.rd 22) h := by funext s h; kernel_rfl

noncomputable def S13_2l (call : CallF) : Nat → AV → AV → AV → AV → Heap → Res
  | 0 => fun _ _ _ _ _ => none
  | k + 1 => S13_3b call (S13_2l call k)

theorem TS13_2l (call : CallF) : (rk Try.prog call 36 (Code.bd (Code.snd (Code.fst (Code.snd (Code.thn (Code.snd (Code.els (Code.snd (Code.els (Code.snd (Code.bd (Code.snd (Code.fst (Code.snd c13))))))))))))))).1 (fun s h => S13_1 call (s.rd 3) h) [(1, (fun s h => S13_1 call (s.rd 3) h)), (0, (fun s h => S13_0 call h))] (finK Try.prog Try.f13.results.toList) (fun _ => stuckK) = fun s h => S13_2l call rounds (s.rd 3) (s.rd 20) (s.rd 21) (s.rd 22) h :=
  loop_t (by kernel_rfl) (loop_ind (A := fun m => fun s h => S13_2l call m (s.rd 3) (s.rd 20) (s.rd 21) (s.rd 22) h) rfl (fun m => TS13_3b call (S13_2l call m)) rounds)

noncomputable def S13_4 (call : CallF) (t3 : AV) (t20 : AV) (t21 : AV) (t22 : AV) (h : Heap) : Res :=
  S13_2l call rounds t3 t20 t21 t22 h

theorem TS13_4 (call : CallF) : (rk Try.prog call 36 (Code.snd (Code.fst (Code.snd (Code.thn (Code.snd (Code.els (Code.snd (Code.els (Code.snd (Code.bd (Code.snd (Code.fst (Code.snd c13)))))))))))))).1 (fun s h => S13_1 call (s.rd 3) h) [(0, (fun s h => S13_0 call h))] (finK Try.prog Try.f13.results.toList) (fun _ => stuckK) = fun s h => S13_4 call (s.rd 3) (s.rd 20) (s.rd 21) (s.rd 22) h := Eq.trans (block_t (id := 1) (by kernel_rfl) (TS13_2l call)) (by funext s h; kernel_rfl)

noncomputable def S13_5 (call : CallF) (t1 : AV) (t3 : AV) (h : Heap) : Res :=
  opt (fieldAddrX 3 t1) fun t19 =>
  opt (loadX none t19 h) fun t20 =>
  opt (lenS t20) fun t21 =>
  S13_4 call t3 t20 t21 (.lit (.int .i64 0)) h

theorem TS13_5 (call : CallF) : (rk Try.prog call 36 (Code.snd (Code.thn (Code.snd (Code.els (Code.snd (Code.els (Code.snd (Code.bd (Code.snd (Code.fst (Code.snd c13)))))))))))).1 (fun s h => S13_0 call h) [(0, (fun s h => S13_0 call h))] (finK Try.prog Try.f13.results.toList) (fun _ => stuckK) = fun s h => S13_5 call (s.rd 1) (s.rd 3) h := Eq.trans (seq_t (by kernel_rfl) (TS13_1 call) (seq_t (by kernel_rfl) (TS13_4 call) rfl)) (by funext s h; kernel_rfl)

noncomputable def S13_6 (call : CallF) (t1 : AV) (h : Heap) : Res :=
  S13_5 call t1 (.lit (.slice none 0 0)) h

theorem TS13_6 (call : CallF) : (rk Try.prog call 36 (Code.thn (Code.snd (Code.els (Code.snd (Code.els (Code.snd (Code.bd (Code.snd (Code.fst (Code.snd c13))))))))))).1 (fun s h => S13_0 call h) [(0, (fun s h => S13_0 call h))] (finK Try.prog Try.f13.results.toList) (fun _ => stuckK) = fun s h => S13_6 call (s.rd 1) h := Eq.trans (seq_t (by kernel_rfl) (TS13_5 call) rfl) (by funext s h; kernel_rfl)

noncomputable def S13_7 (call : CallF) (t1 : AV) (t17 : AV) (h : Heap) : Res :=
  test t17
  (S13_6 call t1 h)
  (S13_0 call h)

theorem TS13_7 (call : CallF) : (rk Try.prog call 36 (Code.snd (Code.els (Code.snd (Code.els (Code.snd (Code.bd (Code.snd (Code.fst (Code.snd c13)))))))))).1 (fun s h => S13_0 call h) [(0, (fun s h => S13_0 call h))] (finK Try.prog Try.f13.results.toList) (fun _ => stuckK) = fun s h => S13_7 call (s.rd 1) (s.rd 17) h := Eq.trans (cond_t (by kernel_rfl) (TS13_6 call) rfl) (by funext s h; kernel_rfl)

noncomputable def S13_8 (call : CallF) (t1 : AV) (t7 : AV) (h : Heap) : Res :=
  opt (fastBin .eql t7 (.lit (.int .i64 1))) fun t18 =>
  S13_7 call t1 t18 h

theorem TS13_8 (call : CallF) : (rk Try.prog call 36 (Code.els (Code.snd (Code.els (Code.snd (Code.bd (Code.snd (Code.fst (Code.snd c13))))))))).1 (fun s h => S13_0 call h) [(0, (fun s h => S13_0 call h))] (finK Try.prog Try.f13.results.toList) (fun _ => stuckK) = fun s h => S13_8 call (s.rd 1) (s.rd 7) h := Eq.trans (seq_t (by kernel_rfl) (TS13_7 call) rfl) (by funext s h; kernel_rfl)

noncomputable def S13_9 (call : CallF) (t1 : AV) (t7 : AV) (t12 : AV) (h : Heap) : Res :=
  test t12
  (opt (fieldAddrX 2 t1) fun t14 =>
  opt (loadX none t14 h) fun t15 =>
  opt2 (call 23 [t15] h) fun t16 h1 =>
  some (t16, h1))
  (S13_8 call t1 t7 h)

theorem TS13_9 (call : CallF) : (rk Try.prog call 36 (Code.snd (Code.els (Code.snd (Code.bd (Code.snd (Code.fst (Code.snd c13)))))))).1 (fun s h => S13_0 call h) [(0, (fun s h => S13_0 call h))] (finK Try.prog Try.f13.results.toList) (fun _ => stuckK) = fun s h => S13_9 call (s.rd 1) (s.rd 7) (s.rd 12) h := Eq.trans (cond_t (by kernel_rfl) rfl (TS13_8 call)) (by funext s h; kernel_rfl)

noncomputable def S13_10 (call : CallF) (t1 : AV) (t7 : AV) (h : Heap) : Res :=
  opt (fastBin .eql t7 (.lit (.int .i64 4))) fun t13 =>
  S13_9 call t1 t7 t13 h

theorem TS13_10 (call : CallF) : (rk Try.prog call 36 (Code.els (Code.snd (Code.bd (Code.snd (Code.fst (Code.snd c13))))))).1 (fun s h => S13_0 call h) [(0, (fun s h => S13_0 call h))] (finK Try.prog Try.f13.results.toList) (fun _ => stuckK) = fun s h => S13_10 call (s.rd 1) (s.rd 7) h := Eq.trans (seq_t (by kernel_rfl) (TS13_9 call) rfl) (by funext s h; kernel_rfl)

noncomputable def S13_11 (call : CallF) (t1 : AV) (t7 : AV) (t8 : AV) (h : Heap) : Res :=
  test t8
  (opt (fieldAddrX 2 t1) fun t10 =>
  opt (loadX none t10 h) fun t11 =>
  some (t11, h))
  (S13_10 call t1 t7 h)

theorem TS13_11 (call : CallF) : (rk Try.prog call 36 (Code.snd (Code.bd (Code.snd (Code.fst (Code.snd c13)))))).1 (fun s h => S13_0 call h) [(0, (fun s h => S13_0 call h))] (finK Try.prog Try.f13.results.toList) (fun _ => stuckK) = fun s h => S13_11 call (s.rd 1) (s.rd 7) (s.rd 8) h := Eq.trans (cond_t (by kernel_rfl) rfl (TS13_10 call)) (by funext s h; kernel_rfl)

noncomputable def S13_12 (call : CallF) (t1 : AV) (t7 : AV) (h : Heap) : Res :=
  opt (fastBin .eql t7 (.lit (.int .i64 3))) fun t9 =>
  S13_11 call t1 t7 t9 h

theorem TS13_12 (call : CallF) : (rk Try.prog call 36 (Code.snd (Code.fst (Code.snd c13)))).1 (fun s h => S13_0 call h) [] (finK Try.prog Try.f13.results.toList) (fun _ => stuckK) = fun s h => S13_12 call (s.rd 1) (s.rd 7) h := Eq.trans (block_t (id := 0) (by kernel_rfl) (seq_t (by kernel_rfl) (TS13_11 call) rfl)) (by funext s h; kernel_rfl)

noncomputable def S13_13 (call : CallF) (t1 : AV) (h : Heap) : Res :=
  opt (fieldAddrX 0 t1) fun t6 =>
  opt (loadX none t6 h) fun t7 =>
  S13_12 call t1 t7 h

theorem TS13_13 (call : CallF) : (rk Try.prog call 36 (Code.snd c13)).1 (finK Try.prog Try.f13.results.toList) [] (finK Try.prog Try.f13.results.toList) (fun _ => stuckK) = fun s h => S13_13 call (s.rd 1) h := Eq.trans (seq_t (by kernel_rfl) (TS13_0 call) (seq_t (by kernel_rfl) (TS13_12 call) rfl)) (by funext s h; kernel_rfl)

/-- hawser/tree.Print -/
noncomputable def F13 (call : CallF) (a0 : AV) (h : Heap) : Res :=
  opt2 (box a0 h) fun t1 h1 =>
  S13_13 call t1 h1

theorem TF13 (call : CallF) (a0 : AV) (h : Heap) : (rk Try.prog call 36 c13).1 (finK Try.prog Try.f13.results.toList) [] (finK Try.prog Try.f13.results.toList) (fun _ => stuckK) (argsTr gl 0 [a0]) h = F13 call a0 h := Eq.trans (congrFun (congrFun (seq_t (by kernel_rfl) (TS13_13 call) rfl) _) _) (by kernel_rfl)

noncomputable def N13 : FnF
  | call, [a0], h => F13 call a0 h
  | _, _, _ => none

theorem N13_ok : FnOk Try.prog gl 13 N13 := FnOk.of namesOk mixedOrders lowOk Try.func13 (by kernel_rfl) fun call args h r hF => by
  unfold N13 at hF
  split at hF
  · rw [← hF, ← TF13]; exact bodyK_at (by kernel_rfl) (by kernel_rfl) rfl rfl
  · cases hF

noncomputable def c23 : Code := codeOf Try.f23

noncomputable def S23_0 (call : CallF) (t3 : AV) (h : Heap) : Res :=
  opt2 (bsliceX 1 (.lit (.int .u8 0)) 1 [(0, (.lit (.int .u8 34)))] h) fun t54 h1 =>
  opt2 (appendX 1 1 t3 t54 h1) fun t55 h2 =>
  opt (b2sX t55 h2) fun t56 =>
  some (t56, h2)

theorem TS23_0 (call : CallF) : (rk Try.prog call 57 (Code.snd (Code.snd (Code.snd c23)))).1 (finK Try.prog Try.f23.results.toList) [] (finK Try.prog Try.f23.results.toList) (fun _ => stuckK) = fun s h => S23_0 call (s.rd 3) h := by funext s h; kernel_rfl

noncomputable def S23_2 (call : CallF) (r1 : AV → AV → AV → AV → Heap → Res) (t0 : AV) (t3 : AV) (t5 : AV) (t8 : AV) (t9 : AV) (t36 : AV) (h : Heap) : Res :=
  test t36
  (opt (binX Try.prog .none .shr 5 t5 (.lit (.int .u64 4))) fun t45 =>
  opt (fastIndex (.lit (.string ⟨⟨[48, 49, 50, 51, 52, 53, 54, 55, 56, 57, 97, 98, 99, 100, 101, 102]⟩⟩)) t45) fun t46 =>
  opt (binX Try.prog .none .and 5 t5 (.lit (.int .u8 15))) fun t48 =>
  opt (fastIndex (.lit (.string ⟨⟨[48, 49, 50, 51, 52, 53, 54, 55, 56, 57, 97, 98, 99, 100, 101, 102]⟩⟩)) t48) fun t49 =>
  opt2 (bsliceX 1 (.lit (.int .u8 0)) 4 [(0, (.lit (.int .u8 92))), (1, (.lit (.int .u8 120))), (2, t46), (3, t49)] h) fun t50 h1 =>
  eqH h1 h (
  opt2 (appendX 1 1 t3 t50 h) fun t51 h2 =>
  opt (fastBin .add t9 (.lit (.int .i64 1))) fun t52 =>
  r1 t0 t51 t8 t52 h2))
  (opt2 (bsliceX 1 (.lit (.int .u8 0)) 1 [(0, t5)] h) fun t17 h3 =>
  opt2 (appendX 1 1 t3 t17 h3) fun t18 h4 =>
  opt (fastBin .add t9 (.lit (.int .i64 1))) fun t52_1 =>
  r1 t0 t18 t8 t52_1 h4)

theorem TS23_2 (call : CallF) (r1 : AV → AV → AV → AV → Heap → Res) : (rk Try.prog call 57 (Code.snd (Code.els (Code.snd (Code.els (Code.snd (Code.bd (Code.snd (Code.snd (Code.bd (Code.fst (Code.snd (Code.snd (Code.bd (Code.bd (Code.snd (Code.fst (Code.snd (Code.snd c23))))))))))))))))))).1 ((rk Try.prog call 57 (Code.snd (Code.snd (Code.snd (Code.bd (Code.bd (Code.snd (Code.fst (Code.snd (Code.snd c23)))))))))).1 (fun s h => r1 (s.rd 0) (s.rd 3) (s.rd 8) (s.rd 9) h) [(0, (fun s h => S23_0 call (s.rd 3) h))] (finK Try.prog Try.f23.results.toList) (fun _ => stuckK)) [(2, ((rk Try.prog call 57 (Code.snd (Code.snd (Code.snd (Code.bd (Code.bd (Code.snd (Code.fst (Code.snd (Code.snd c23)))))))))).1 (fun s h => r1 (s.rd 0) (s.rd 3) (s.rd 8) (s.rd 9) h) [(0, (fun s h => S23_0 call (s.rd 3) h))] (finK Try.prog Try.f23.results.toList) (fun _ => stuckK))), (1, ((rk Try.prog call 57 (Code.snd (Code.snd (Code.snd (Code.bd (Code.bd (Code.snd (Code.fst (Code.snd (Code.snd c23)))))))))).1 (fun s h => r1 (s.rd 0) (s.rd 3) (s.rd 8) (s.rd 9) h) [(0, (fun s h => S23_0 call (s.rd 3) h))] (finK Try.prog Try.f23.results.toList) (fun _ => stuckK))), (0, (fun s h => S23_0 call (s.rd 3) h))] (finK Try.prog Try.f23.results.toList) (fun _ => stuckK) = fun s h => S23_2 call r1 (s.rd 0) (s.rd 3) (s.rd 5) (s.rd 8) (s.rd 9) (s.rd 36) h := by funext s h; kernel_rfl

noncomputable def S23_3 (call : CallF) (r1 : AV → AV → AV → AV → Heap → Res) (t0 : AV) (t3 : AV) (t5 : AV) (t8 : AV) (t9 : AV) (h : Heap) : Res :=
  opt (fastBin .lss t5 (.lit (.int .u8 32))) fun t38 =>
  test t38
  (S23_2 call r1 t0 t3 t5 t8 t9 (.lit (.bool true)) h)
  (opt (fastBin .gtr t5 (.lit (.int .u8 126))) fun t41 =>
  S23_2 call r1 t0 t3 t5 t8 t9 t41 h)

theorem TS23_3 (call : CallF) (r1 : AV → AV → AV → AV → Heap → Res) : (rk Try.prog call 57 (Code.els (Code.snd (Code.els (Code.snd (Code.bd (Code.snd (Code.snd (Code.bd (Code.fst (Code.snd (Code.snd (Code.bd (Code.bd (Code.snd (Code.fst (Code.snd (Code.snd c23)))))))))))))))))).1 ((rk Try.prog call 57 (Code.snd (Code.snd (Code.snd (Code.bd (Code.bd (Code.snd (Code.fst (Code.snd (Code.snd c23)))))))))).1 (fun s h => r1 (s.rd 0) (s.rd 3) (s.rd 8) (s.rd 9) h) [(0, (fun s h => S23_0 call (s.rd 3) h))] (finK Try.prog Try.f23.results.toList) (fun _ => stuckK)) [(2, ((rk Try.prog call 57 (Code.snd (Code.snd (Code.snd (Code.bd (Code.bd (Code.snd (Code.fst (Code.snd (Code.snd c23)))))))))).1 (fun s h => r1 (s.rd 0) (s.rd 3) (s.rd 8) (s.rd 9) h) [(0, (fun s h => S23_0 call (s.rd 3) h))] (finK Try.prog Try.f23.results.toList) (fun _ => stuckK))), (1, ((rk Try.prog call 57 (Code.snd (Code.snd (Code.snd (Code.bd (Code.bd (Code.snd (Code.fst (Code.snd (Code.snd c23)))))))))).1 (fun s h => r1 (s.rd 0) (s.rd 3) (s.rd 8) (s.rd 9) h) [(0, (fun s h => S23_0 call (s.rd 3) h))] (finK Try.prog Try.f23.results.toList) (fun _ => stuckK))), (0, (fun s h => S23_0 call (s.rd 3) h))] (finK Try.prog Try.f23.results.toList) (fun _ => stuckK) = fun s h => S23_3 call r1 (s.rd 0) (s.rd 3) (s.rd 5) (s.rd 8) (s.rd 9) h := Eq.trans (seq_t (by kernel_rfl) (TS23_2 call r1) rfl) (by funext s h; kernel_rfl)

noncomputable def S23_4 (call : CallF) (r1 : AV → AV → AV → AV → Heap → Res) (t0 : AV) (t3 : AV) (t5 : AV) (t8 : AV) (t9 : AV) (t30 : AV) (h : Heap) : Res :=
  test t30
  (opt2 (bsliceX 1 (.lit (.int .u8 0)) 2 [(0, (.lit (.int .u8 92))), (1, (.lit (.int .u8 110)))] h) fun t34 h1 =>
  opt2 (appendX 1 1 t3 t34 h1) fun t35 h2 =>
  opt (fastBin .add t9 (.lit (.int .i64 1))) fun t52 =>
  r1 t0 t35 t8 t52 h2)
  (S23_3 call r1 t0 t3 t5 t8 t9 h)

theorem TS23_4 (call : CallF) (r1 : AV → AV → AV → AV → Heap → Res) : (rk Try.prog call 57 (Code.snd (Code.els (Code.snd (Code.bd (Code.snd (Code.snd (Code.bd (Code.fst (Code.snd (Code.snd (Code.bd (Code.bd (Code.snd (Code.fst (Code.snd (Code.snd c23))))))))))))))))).1 ((rk Try.prog call 57 (Code.snd (Code.snd (Code.snd (Code.bd (Code.bd (Code.snd (Code.fst (Code.snd (Code.snd c23)))))))))).1 (fun s h => r1 (s.rd 0) (s.rd 3) (s.rd 8) (s.rd 9) h) [(0, (fun s h => S23_0 call (s.rd 3) h))] (finK Try.prog Try.f23.results.toList) (fun _ => stuckK)) [(2, ((rk Try.prog call 57 (Code.snd (Code.snd (Code.snd (Code.bd (Code.bd (Code.snd (Code.fst (Code.snd (Code.snd c23)))))))))).1 (fun s h => r1 (s.rd 0) (s.rd 3) (s.rd 8) (s.rd 9) h) [(0, (fun s h => S23_0 call (s.rd 3) h))] (finK Try.prog Try.f23.results.toList) (fun _ => stuckK))), (1, ((rk Try.prog call 57 (Code.snd (Code.snd (Code.snd (Code.bd (Code.bd (Code.snd (Code.fst (Code.snd (Code.snd c23)))))))))).1 (fun s h => r1 (s.rd 0) (s.rd 3) (s.rd 8) (s.rd 9) h) [(0, (fun s h => S23_0 call (s.rd 3) h))] (finK Try.prog Try.f23.results.toList) (fun _ => stuckK))), (0, (fun s h => S23_0 call (s.rd 3) h))] (finK Try.prog Try.f23.results.toList) (fun _ => stuckK) = fun s h => S23_4 call r1 (s.rd 0) (s.rd 3) (s.rd 5) (s.rd 8) (s.rd 9) (s.rd 30) h := Eq.trans (cond_t (by kernel_rfl) rfl (TS23_3 call r1)) (by funext s h; kernel_rfl)

noncomputable def S23_5 (call : CallF) (r1 : AV → AV → AV → AV → Heap → Res) (t0 : AV) (t3 : AV) (t5 : AV) (t8 : AV) (t9 : AV) (h : Heap) : Res :=
  opt (fastBin .eql t5 (.lit (.int .u8 10))) fun t32 =>
  S23_4 call r1 t0 t3 t5 t8 t9 t32 h

theorem TS23_5 (call : CallF) (r1 : AV → AV → AV → AV → Heap → Res) : (rk Try.prog call 57 (Code.els (Code.snd (Code.bd (Code.snd (Code.snd (Code.bd (Code.fst (Code.snd (Code.snd (Code.bd (Code.bd (Code.snd (Code.fst (Code.snd (Code.snd c23)))))))))))))))).1 ((rk Try.prog call 57 (Code.snd (Code.snd (Code.snd (Code.bd (Code.bd (Code.snd (Code.fst (Code.snd (Code.snd c23)))))))))).1 (fun s h => r1 (s.rd 0) (s.rd 3) (s.rd 8) (s.rd 9) h) [(0, (fun s h => S23_0 call (s.rd 3) h))] (finK Try.prog Try.f23.results.toList) (fun _ => stuckK)) [(2, ((rk Try.prog call 57 (Code.snd (Code.snd (Code.snd (Code.bd (Code.bd (Code.snd (Code.fst (Code.snd (Code.snd c23)))))))))).1 (fun s h => r1 (s.rd 0) (s.rd 3) (s.rd 8) (s.rd 9) h) [(0, (fun s h => S23_0 call (s.rd 3) h))] (finK Try.prog Try.f23.results.toList) (fun _ => stuckK))), (1, ((rk Try.prog call 57 (Code.snd (Code.snd (Code.snd (Code.bd (Code.bd (Code.snd (Code.fst (Code.snd (Code.snd c23)))))))))).1 (fun s h => r1 (s.rd 0) (s.rd 3) (s.rd 8) (s.rd 9) h) [(0, (fun s h => S23_0 call (s.rd 3) h))] (finK Try.prog Try.f23.results.toList) (fun _ => stuckK))), (0, (fun s h => S23_0 call (s.rd 3) h))] (finK Try.prog Try.f23.results.toList) (fun _ => stuckK) = fun s h => S23_5 call r1 (s.rd 0) (s.rd 3) (s.rd 5) (s.rd 8) (s.rd 9) h := Eq.trans (seq_t (by kernel_rfl) (TS23_4 call r1) rfl) (by funext s h; kernel_rfl)

noncomputable def S23_6 (call : CallF) (r1 : AV → AV → AV → AV → Heap → Res) (t0 : AV) (t3 : AV) (t5 : AV) (t8 : AV) (t9 : AV) (t19 : AV) (h : Heap) : Res :=
  test t19
  (opt2 (bsliceX 1 (.lit (.int .u8 0)) 2 [(0, (.lit (.int .u8 92))), (1, t5)] h) fun t28 h1 =>
  opt2 (appendX 1 1 t3 t28 h1) fun t29 h2 =>
  opt (fastBin .add t9 (.lit (.int .i64 1))) fun t52 =>
  r1 t0 t29 t8 t52 h2)
  (S23_5 call r1 t0 t3 t5 t8 t9 h)

theorem TS23_6 (call : CallF) (r1 : AV → AV → AV → AV → Heap → Res) : (rk Try.prog call 57 (Code.snd (Code.bd (Code.snd (Code.snd (Code.bd (Code.fst (Code.snd (Code.snd (Code.bd (Code.bd (Code.snd (Code.fst (Code.snd (Code.snd c23))))))))))))))).1 ((rk Try.prog call 57 (Code.snd (Code.snd (Code.snd (Code.bd (Code.bd (Code.snd (Code.fst (Code.snd (Code.snd c23)))))))))).1 (fun s h => r1 (s.rd 0) (s.rd 3) (s.rd 8) (s.rd 9) h) [(0, (fun s h => S23_0 call (s.rd 3) h))] (finK Try.prog Try.f23.results.toList) (fun _ => stuckK)) [(2, ((rk Try.prog call 57 (Code.snd (Code.snd (Code.snd (Code.bd (Code.bd (Code.snd (Code.fst (Code.snd (Code.snd c23)))))))))).1 (fun s h => r1 (s.rd 0) (s.rd 3) (s.rd 8) (s.rd 9) h) [(0, (fun s h => S23_0 call (s.rd 3) h))] (finK Try.prog Try.f23.results.toList) (fun _ => stuckK))), (1, ((rk Try.prog call 57 (Code.snd (Code.snd (Code.snd (Code.bd (Code.bd (Code.snd (Code.fst (Code.snd (Code.snd c23)))))))))).1 (fun s h => r1 (s.rd 0) (s.rd 3) (s.rd 8) (s.rd 9) h) [(0, (fun s h => S23_0 call (s.rd 3) h))] (finK Try.prog Try.f23.results.toList) (fun _ => stuckK))), (0, (fun s h => S23_0 call (s.rd 3) h))] (finK Try.prog Try.f23.results.toList) (fun _ => stuckK) = fun s h => S23_6 call r1 (s.rd 0) (s.rd 3) (s.rd 5) (s.rd 8) (s.rd 9) (s.rd 19) h := Eq.trans (cond_t (by kernel_rfl) rfl (TS23_5 call r1)) (by funext s h; kernel_rfl)

noncomputable def S23_7 (call : CallF) (r1 : AV → AV → AV → AV → Heap → Res) (t0 : AV) (t3 : AV) (t5 : AV) (t8 : AV) (t9 : AV) (h : Heap) : Res :=
  opt (fastBin .eql t5 (.lit (.int .u8 34))) fun t21 =>
  test t21
  (S23_6 call r1 t0 t3 t5 t8 t9 (.lit (.bool true)) h)
  (opt (fastBin .eql t5 (.lit (.int .u8 92))) fun t24 =>
  S23_6 call r1 t0 t3 t5 t8 t9 t24 h)

theorem TS23_7 (call : CallF) (r1 : AV → AV → AV → AV → Heap → Res) : (rk Try.prog call 57 (Code.snd (Code.snd (Code.bd (Code.fst (Code.snd (Code.snd (Code.bd (Code.bd (Code.snd (Code.fst (Code.snd (Code.snd c23))))))))))))).1 ((rk Try.prog call 57 (Code.snd (Code.snd (Code.snd (Code.bd (Code.bd (Code.snd (Code.fst (Code.snd (Code.snd c23)))))))))).1 (fun s h => r1 (s.rd 0) (s.rd 3) (s.rd 8) (s.rd 9) h) [(0, (fun s h => S23_0 call (s.rd 3) h))] (finK Try.prog Try.f23.results.toList) (fun _ => stuckK)) [(1, ((rk Try.prog call 57 (Code.snd (Code.snd (Code.snd (Code.bd (Code.bd (Code.snd (Code.fst (Code.snd (Code.snd c23)))))))))).1 (fun s h => r1 (s.rd 0) (s.rd 3) (s.rd 8) (s.rd 9) h) [(0, (fun s h => S23_0 call (s.rd 3) h))] (finK Try.prog Try.f23.results.toList) (fun _ => stuckK))), (0, (fun s h => S23_0 call (s.rd 3) h))] (finK Try.prog Try.f23.results.toList) (fun _ => stuckK) = fun s h => S23_7 call r1 (s.rd 0) (s.rd 3) (s.rd 5) (s.rd 8) (s.rd 9) h := Eq.trans (block_t (id := 2) (by kernel_rfl) (seq_t (by kernel_rfl) (TS23_6 call r1) rfl)) (by funext s h; kernel_rfl)

noncomputable def S23_8 (call : CallF) (r1 : AV → AV → AV → AV → Heap → Res) (t0 : AV) (t3 : AV) (t4 : AV) (t8 : AV) (t9 : AV) (h : Heap) : Res :=
  opt (fastIndex t0 t4) fun t14 =>
  S23_7 call r1 t0 t3 t14 t8 t9 h

theorem TS23_8 (call : CallF) (r1 : AV → AV → AV → AV → Heap → Res) : (rk Try.prog call 57 (Code.snd (Code.bd (Code.fst (Code.snd (Code.snd (Code.bd (Code.bd (Code.snd (Code.fst (Code.snd (Code.snd c23)))))))))))).1 ((rk Try.prog call 57 (Code.snd (Code.snd (Code.snd (Code.bd (Code.bd (Code.snd (Code.fst (Code.snd (Code.snd c23)))))))))).1 (fun s h => r1 (s.rd 0) (s.rd 3) (s.rd 8) (s.rd 9) h) [(0, (fun s h => S23_0 call (s.rd 3) h))] (finK Try.prog Try.f23.results.toList) (fun _ => stuckK)) [(1, ((rk Try.prog call 57 (Code.snd (Code.snd (Code.snd (Code.bd (Code.bd (Code.snd (Code.fst (Code.snd (Code.snd c23)))))))))).1 (fun s h => r1 (s.rd 0) (s.rd 3) (s.rd 8) (s.rd 9) h) [(0, (fun s h => S23_0 call (s.rd 3) h))] (finK Try.prog Try.f23.results.toList) (fun _ => stuckK))), (0, (fun s h => S23_0 call (s.rd 3) h))] (finK Try.prog Try.f23.results.toList) (fun _ => stuckK) = fun s h => S23_8 call r1 (s.rd 0) (s.rd 3) (s.rd 4) (s.rd 8) (s.rd 9) h := Eq.trans (seq_t (by kernel_rfl) (TS23_7 call r1) rfl) (by funext s h; kernel_rfl)

noncomputable def S23_9 (call : CallF) (r1 : AV → AV → AV → AV → Heap → Res) (t0 : AV) (t3 : AV) (t8 : AV) (t9 : AV) (h : Heap) : Res :=
  S23_8 call r1 t0 t3 t9 t8 t9 h

theorem TS23_9 (call : CallF) (r1 : AV → AV → AV → AV → Heap → Res) : (rk Try.prog call 57 (Code.snd (Code.snd (Code.bd (Code.bd (Code.snd (Code.fst (Code.snd (Code.snd c23))))))))).1 (fun s h => r1 (s.rd 0) (s.rd 3) (s.rd 8) (s.rd 9) h) [(0, (fun s h => S23_0 call (s.rd 3) h))] (finK Try.prog Try.f23.results.toList) (fun _ => stuckK) = fun s h => S23_9 call r1 (s.rd 0) (s.rd 3) (s.rd 8) (s.rd 9) h := Eq.trans (seq_t (by kernel_rfl) rfl (block_t (id := 1) (by kernel_rfl) (seq_t (by kernel_rfl) (TS23_8 call r1) rfl))) (by funext s h; kernel_rfl)

noncomputable def S23_10 (call : CallF) (r1 : AV → AV → AV → AV → Heap → Res) (t0 : AV) (t3 : AV) (t8 : AV) (t9 : AV) (t10 : AV) (h : Heap) : Res :=
  test t10
  (S23_9 call r1 t0 t3 t8 t9 h)
  (S23_0 call t3 h)

theorem TS23_10 (call : CallF) (r1 : AV → AV → AV → AV → Heap → Res) : (rk Try.prog call 57 (Code.snd (Code.bd (Code.bd (Code.snd (Code.fst (Code.snd (Code.snd c23)))))))).1 (fun s h => r1 (s.rd 0) (s.rd 3) (s.rd 8) (s.rd 9) h) [(0, (fun s h => S23_0 call (s.rd 3) h))] (finK Try.prog Try.f23.results.toList) (fun _ => stuckK) = fun s h => S23_10 call r1 (s.rd 0) (s.rd 3) (s.rd 8) (s.rd 9) (s.rd 10) h := Eq.trans (seq_t (by kernel_rfl) (TS23_9 call r1) rfl) (by funext s h; kernel_rfl)

noncomputable def S23_11b (call : CallF) (r1 : AV → AV → AV → AV → Heap → Res) (t0 : AV) (t3 : AV) (t8 : AV) (t9 : AV) (h : Heap) : Res :=
  opt (fastBin .lss t9 t8) fun t10 =>
  S23_10 call r1 t0 t3 t8 t9 t10 h

theorem TS23_11b (call : CallF) (r1 : AV → AV → AV → AV → Heap → Res) : (rk Try.prog call 57 (Code.bd (Code.bd (Code.snd (Code.fst (Code.snd (Code.snd c23))))))).1 (fun s h => r1 (s.rd 0) (s.rd 3) (s.rd 8) (s.rd 9) h) [(0, (fun s h => S23_0 call (s.rd 3) h))] (finK Try.prog Try.f23.results.toList) (fun _ => stuckK) = fun s h => S23_11b call r1 (s.rd 0) (s.rd 3) (s.rd 8) (s.rd 9) h := Eq.trans (seq_t (by kernel_rfl) (TS23_10 call r1) rfl) (by funext s h; kernel_rfl)

noncomputable def S23_1l (call : CallF) : Nat → AV → AV → AV → AV → Heap → Res
  | 0 => fun _ _ _ _ _ => none
  | k + 1 => S23_11b call (S23_1l call k)

theorem TS23_1l (call : CallF) : (rk Try.prog call 57 (Code.bd (Code.snd (Code.fst (Code.snd (Code.snd c23)))))).1 (fun s h => S23_0 call (s.rd 3) h) [(0, (fun s h => S23_0 call (s.rd 3) h))] (finK Try.prog Try.f23.results.toList) (fun _ => stuckK) = fun s h => S23_1l call rounds (s.rd 0) (s.rd 3) (s.rd 8) (s.rd 9) h :=
  loop_t (by kernel_rfl) (loop_ind (A := fun m => fun s h => S23_1l call m (s.rd 0) (s.rd 3) (s.rd 8) (s.rd 9) h) rfl (fun m => TS23_11b call (S23_1l call m)) rounds)

noncomputable def S23_12 (call : CallF) (t0 : AV) (t3 : AV) (t8 : AV) (t9 : AV) (h : Heap) : Res :=
  S23_1l call rounds t0 t3 t8 t9 h

theorem TS23_12 (call : CallF) : (rk Try.prog call 57 (Code.snd (Code.fst (Code.snd (Code.snd c23))))).1 (fun s h => S23_0 call (s.rd 3) h) [] (finK Try.prog Try.f23.results.toList) (fun _ => stuckK) = fun s h => S23_12 call (s.rd 0) (s.rd 3) (s.rd 8) (s.rd 9) h := Eq.trans (block_t (id := 0) (by kernel_rfl) (TS23_1l call)) (by funext s h; kernel_rfl)

noncomputable def S23_13 (call : CallF) (t0 : AV) (t3 : AV) (h : Heap) : Res :=
  opt (lenStr t0) fun t8 =>
  S23_12 call t0 t3 t8 (.lit (.int .i64 0)) h

theorem TS23_13 (call : CallF) : (rk Try.prog call 57 (Code.snd (Code.snd c23))).1 (finK Try.prog Try.f23.results.toList) [] (finK Try.prog Try.f23.results.toList) (fun _ => stuckK) = fun s h => S23_13 call (s.rd 0) (s.rd 3) h := Eq.trans (seq_t (by kernel_rfl) (TS23_0 call) (seq_t (by kernel_rfl) (TS23_12 call) rfl)) (by funext s h; kernel_rfl)

noncomputable def S23_14 (call : CallF) (t0 : AV) (h : Heap) : Res :=
  opt2 (bsliceX 1 (.lit (.int .u8 0)) 1 [(0, (.lit (.int .u8 34)))] h) fun t6 h1 =>
  S23_13 call t0 t6 h1

theorem TS23_14 (call : CallF) : (rk Try.prog call 57 (Code.snd c23)).1 (finK Try.prog Try.f23.results.toList) [] (finK Try.prog Try.f23.results.toList) (fun _ => stuckK) = fun s h => S23_14 call (s.rd 0) h := Eq.trans (seq_t (by kernel_rfl) (TS23_13 call) rfl) (by funext s h; kernel_rfl)

/-- hawser/lex.Quote -/
noncomputable def F23 (call : CallF) (a0 : AV) (h : Heap) : Res :=
  S23_14 call a0 h

theorem TF23 (call : CallF) (a0 : AV) (h : Heap) : (rk Try.prog call 57 c23).1 (finK Try.prog Try.f23.results.toList) [] (finK Try.prog Try.f23.results.toList) (fun _ => stuckK) (argsTr gl 0 [a0]) h = F23 call a0 h := Eq.trans (congrFun (congrFun (seq_t (by kernel_rfl) (TS23_14 call) rfl) _) _) (by kernel_rfl)

noncomputable def N23 : FnF
  | call, [a0], h => F23 call a0 h
  | _, _, _ => none

theorem N23_ok : FnOk Try.prog gl 23 N23 := FnOk.of namesOk mixedOrders lowOk Try.func23 (by kernel_rfl) fun call args h r hF => by
  unfold N23 at hF
  split at hF
  · rw [← hF, ← TF23]; exact bodyK_at (by kernel_rfl) (by kernel_rfl) rfl rfl
  · cases hF

end Go.Proofs.Ytcajleckiegffaa
