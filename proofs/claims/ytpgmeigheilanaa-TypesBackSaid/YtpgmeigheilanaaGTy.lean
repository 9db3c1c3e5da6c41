import Derived.Test.YtpgmeigheilanaaProg
import Derived.Test.YtpgmeigheilanaaAmX
import Derived.Test.YtpgmeigheilanaaAmN
import Derived.Lib.IndexAny
import Derived.KernelRfl
namespace Go.Proofs.Ytpgmeigheilanaa
open Go.Am
set_option maxRecDepth 100000
set_option linter.unusedSimpArgs false
set_option linter.unusedVariables false
noncomputable def gl : Tr := .leaf
theorem lowOk : ∀ i, i ≤ 4294967296 → gl.get i = .lit undef := fun i _ => Tr.get_leaf i
theorem names : (Try.prog.funcs.toList.all fun fn => !(fn.body.isSome && (fn.name == "runtime.NumGoroutine"))) = true := by kernel_rfl
theorem namesOk : NamesOk Try.prog := by
  intro f fn h hb
  have hm : fn ∈ Try.prog.funcs.toList := Array.mem_toList_iff.2 (Array.mem_of_getElem? h)
  have := List.all_eq_true.1 names fn hm
  simp only [hb, Bool.true_and, Bool.not_eq_true'] at this
  exact this
theorem mixedOrders : Try.prog.follows .mixedOrders = true := by kernel_rfl
noncomputable def c3 : Code := codeOf Try.f3

noncomputable def S3_0 (call : CallF) (t4 : AV) (t6 : AV) (t7 : AV) (t8 : AV) (h : Heap) : Res :=
  opt2 (call 11 [t7] h) fun t43 h1 =>
  opt (extractX t43 0) fun t44 =>
  opt (extractX t43 1) fun t45 =>
  opt (extractX t43 2) fun t46 =>
  opt2 (call 12 [t8] h1) fun t49 h2 =>
  opt (extractX t49 0) fun t50 =>
  opt (extractX t49 1) fun t51 =>
  opt2 (call 12 [t7] h2) fun t54 h3 =>
  opt (extractX t54 0) fun t55 =>
  opt (extractX t54 1) fun t56 =>
  test t46
  (opt2 (call 13 [t4, t44] h3) fun t61 h4 =>
  test t61
  (opt (fastBin .eql t45 t6) fun t66 =>
  test t66
  (test t51
  (opt (fastBin .eql t50 t6) fun t74 =>
  test t74
  (opt (notX t56) fun t78 =>
  test t78
  (opt2 (call 14 [t7] h4) fun t82 h5 =>
  test t82
  (opt2 (call 14 [t8] h5) fun t86 h6 =>
  test t86
  (opt2 (call 10 [] h6) fun t89 h7 =>
  some (t89, h7))
  (some ((.lit (.bool false)), h6)))
  (some ((.lit (.bool false)), h5)))
  (some ((.lit (.bool false)), h4)))
  (some ((.lit (.bool false)), h4)))
  (some ((.lit (.bool false)), h4)))
  (some ((.lit (.bool false)), h4)))
  (some ((.lit (.bool false)), h4)))
  (some ((.lit (.bool false)), h3))

theorem TS3_0 (call : CallF) : (rk Try.prog call 91 (Code.snd (Code.snd (Code.snd (Code.snd (Code.snd (Code.snd (Code.snd (Code.snd c3))))))))).1 (finK Try.prog Try.f3.results.toList) [] (finK Try.prog Try.f3.results.toList) (fun _ => stuckK) = fun s h => S3_0 call (s.rd 4) (s.rd 6) (s.rd 7) (s.rd 8) h := by funext s h; kernel_rfl

noncomputable def S3_1 (call : CallF) (t4 : AV) (t6 : AV) (t7 : AV) (t8 : AV) (t39 : AV) (h : Heap) : Res :=
  test t39
  (opt2 (call 10 [] h) fun t40 h1 =>
  some (t40, h1))
  (S3_0 call t4 t6 t7 t8 h)

theorem TS3_1 (call : CallF) : (rk Try.prog call 91 (Code.snd (Code.fst (Code.snd (Code.snd (Code.snd (Code.snd (Code.snd (Code.snd (Code.snd c3)))))))))).1 (fun s h => S3_0 call (s.rd 4) (s.rd 6) (s.rd 7) (s.rd 8) h) [] (finK Try.prog Try.f3.results.toList) (fun _ => stuckK) = fun s h => S3_1 call (s.rd 4) (s.rd 6) (s.rd 7) (s.rd 8) (s.rd 39) h := by funext s h; kernel_rfl

noncomputable def S3_2 (call : CallF) (t4 : AV) (t6 : AV) (t7 : AV) (t8 : AV) (h : Heap) : Res :=
  opt (lenStr t7) fun t33 =>
  opt (fastBin .gtr t33 (.lit (.int .i64 200))) fun t34 =>
  test t34
  (S3_1 call t4 t6 t7 t8 (.lit (.bool true)) h)
  (opt (lenStr t8) fun t37 =>
  opt (fastBin .gtr t37 (.lit (.int .i64 200))) fun t38 =>
  S3_1 call t4 t6 t7 t8 t38 h)

theorem TS3_2 (call : CallF) : (rk Try.prog call 91 (Code.snd (Code.snd (Code.snd (Code.snd (Code.snd (Code.snd (Code.snd c3)))))))).1 (finK Try.prog Try.f3.results.toList) [] (finK Try.prog Try.f3.results.toList) (fun _ => stuckK) = fun s h => S3_2 call (s.rd 4) (s.rd 6) (s.rd 7) (s.rd 8) h := Eq.trans (seq_t (by kernel_rfl) (TS3_0 call) (seq_t (by kernel_rfl) (TS3_1 call) rfl)) (by funext s h; kernel_rfl)

noncomputable def S3_3 (call : CallF) (t4 : AV) (t6 : AV) (t7 : AV) (h : Heap) : Res :=
  opt2 (call 9 [t6] h) fun t31 h1 =>
  S3_2 call t4 t6 t7 t31 h1

theorem TS3_3 (call : CallF) : (rk Try.prog call 91 (Code.snd (Code.snd (Code.snd (Code.snd (Code.snd (Code.snd c3))))))).1 (finK Try.prog Try.f3.results.toList) [] (finK Try.prog Try.f3.results.toList) (fun _ => stuckK) = fun s h => S3_3 call (s.rd 4) (s.rd 6) (s.rd 7) h := Eq.trans (seq_t (by kernel_rfl) (TS3_2 call) rfl) (by funext s h; kernel_rfl)

noncomputable def S3_4 (call : CallF) (t4 : AV) (t6 : AV) (h : Heap) : Res :=
  opt2 (call 8 [t4, t6] h) fun t29 h1 =>
  S3_3 call t4 t6 t29 h1

theorem TS3_4 (call : CallF) : (rk Try.prog call 91 (Code.snd (Code.snd (Code.snd (Code.snd (Code.snd c3)))))).1 (finK Try.prog Try.f3.results.toList) [] (finK Try.prog Try.f3.results.toList) (fun _ => stuckK) = fun s h => S3_4 call (s.rd 4) (s.rd 6) h := Eq.trans (seq_t (by kernel_rfl) (TS3_3 call) rfl) (by funext s h; kernel_rfl)

noncomputable def S3_5 (call : CallF) (t0 : AV) (t3 : AV) (t4 : AV) (h : Heap) : Res :=
  opt2 (call 7 [t0, t3, (.lit (.int .i64 2))] h) fun t26 h1 =>
  S3_4 call t4 t26 h1

theorem TS3_5 (call : CallF) : (rk Try.prog call 91 (Code.snd (Code.snd (Code.snd (Code.snd c3))))).1 (finK Try.prog Try.f3.results.toList) [] (finK Try.prog Try.f3.results.toList) (fun _ => stuckK) = fun s h => S3_5 call (s.rd 0) (s.rd 3) (s.rd 4) h := Eq.trans (seq_t (by kernel_rfl) (TS3_4 call) rfl) (by funext s h; kernel_rfl)

noncomputable def S3_7b (call : CallF) (r6 : AV → AV → AV → AV → Heap → Res) (t0 : AV) (t3 : AV) (t4 : AV) (t5 : AV) (h : Heap) : Res :=
  opt (fastBin .lss t5 (.lit (.int .i64 2))) fun t17 =>
  test t17
  (opt2 (call 7 [t0, t3, (.lit (.int .i64 2))] h) fun t22 h1 =>
  opt2 (bsliceX 1 (.lit (.string ⟨⟨[]⟩⟩)) 1 [(0, t22)] h1) fun t23 h2 =>
  opt2 (appendX 1 16 t4 t23 h2) fun t24 h3 =>
  opt (fastBin .add t5 (.lit (.int .i64 1))) fun t19 =>
  r6 t0 t3 t24 t19 h3)
  (S3_5 call t0 t3 t4 h)

theorem TS3_7b (call : CallF) (r6 : AV → AV → AV → AV → Heap → Res) : (rk Try.prog call 91 (Code.bd (Code.bd (Code.snd (Code.fst (Code.snd (Code.snd (Code.snd c3)))))))).1 (fun s h => r6 (s.rd 0) (s.rd 3) (s.rd 4) (s.rd 5) h) [(0, (fun s h => S3_5 call (s.rd 0) (s.rd 3) (s.rd 4) h))] (finK Try.prog Try.f3.results.toList) (fun _ => stuckK) = fun s h => S3_7b call r6 (s.rd 0) (s.rd 3) (s.rd 4) (s.rd 5) h := by funext s h; kernel_rfl

noncomputable def S3_6l (call : CallF) : Nat → AV → AV → AV → AV → Heap → Res
  | 0 => fun _ _ _ _ _ => none
  | k + 1 => S3_7b call (S3_6l call k)

theorem TS3_6l (call : CallF) : (rk Try.prog call 91 (Code.bd (Code.snd (Code.fst (Code.snd (Code.snd (Code.snd c3))))))).1 (fun s h => S3_5 call (s.rd 0) (s.rd 3) (s.rd 4) h) [(0, (fun s h => S3_5 call (s.rd 0) (s.rd 3) (s.rd 4) h))] (finK Try.prog Try.f3.results.toList) (fun _ => stuckK) = fun s h => S3_6l call rounds (s.rd 0) (s.rd 3) (s.rd 4) (s.rd 5) h :=
  loop_t (by kernel_rfl) (loop_ind (A := fun m => fun s h => S3_6l call m (s.rd 0) (s.rd 3) (s.rd 4) (s.rd 5) h) rfl (fun m => TS3_7b call (S3_6l call m)) rounds)

noncomputable def S3_8 (call : CallF) (t0 : AV) (t3 : AV) (t4 : AV) (t5 : AV) (h : Heap) : Res :=
  S3_6l call rounds t0 t3 t4 t5 h

theorem TS3_8 (call : CallF) : (rk Try.prog call 91 (Code.snd (Code.fst (Code.snd (Code.snd (Code.snd c3)))))).1 (fun s h => S3_5 call (s.rd 0) (s.rd 3) (s.rd 4) h) [] (finK Try.prog Try.f3.results.toList) (fun _ => stuckK) = fun s h => S3_8 call (s.rd 0) (s.rd 3) (s.rd 4) (s.rd 5) h := Eq.trans (block_t (id := 0) (by kernel_rfl) (TS3_6l call)) (by funext s h; kernel_rfl)

noncomputable def S3_9 (call : CallF) (t0 : AV) (t3 : AV) (t4 : AV) (h : Heap) : Res :=
  S3_8 call t0 t3 t4 (.lit (.int .i64 0)) h

theorem TS3_9 (call : CallF) : (rk Try.prog call 91 (Code.snd (Code.snd (Code.snd c3)))).1 (finK Try.prog Try.f3.results.toList) [] (finK Try.prog Try.f3.results.toList) (fun _ => stuckK) = fun s h => S3_9 call (s.rd 0) (s.rd 3) (s.rd 4) h := Eq.trans (seq_t (by kernel_rfl) (TS3_5 call) (seq_t (by kernel_rfl) (TS3_8 call) rfl)) (by funext s h; kernel_rfl)

noncomputable def S3_10 (call : CallF) (t0 : AV) (t3 : AV) (h : Heap) : Res :=
  S3_9 call t0 t3 (.lit (.slice none 0 0)) h

theorem TS3_10 (call : CallF) : (rk Try.prog call 91 (Code.snd (Code.snd c3))).1 (finK Try.prog Try.f3.results.toList) [] (finK Try.prog Try.f3.results.toList) (fun _ => stuckK) = fun s h => S3_10 call (s.rd 0) (s.rd 3) h := Eq.trans (seq_t (by kernel_rfl) (TS3_9 call) rfl) (by funext s h; kernel_rfl)

noncomputable def S3_11 (call : CallF) (t0 : AV) (h : Heap) : Res :=
  opt2 (box (.lit (.int .i64 0)) h) fun t3 h1 =>
  optH (storeX 1 t3 (.lit (.int .i64 0)) h1) fun h2 =>
  S3_10 call t0 t3 h2

theorem TS3_11 (call : CallF) : (rk Try.prog call 91 (Code.snd c3)).1 (finK Try.prog Try.f3.results.toList) [] (finK Try.prog Try.f3.results.toList) (fun _ => stuckK) = fun s h => S3_11 call (s.rd 0) h := Eq.trans (seq_t (by kernel_rfl) (TS3_10 call) rfl) (by funext s h; kernel_rfl)

/-- hawser/hawserlaw5.TypesBack -/
noncomputable def F3 (call : CallF) (a0 : AV) (h : Heap) : Res :=
  S3_11 call a0 h

theorem TF3 (call : CallF) (a0 : AV) (h : Heap) : (rk Try.prog call 91 c3).1 (finK Try.prog Try.f3.results.toList) [] (finK Try.prog Try.f3.results.toList) (fun _ => stuckK) (argsTr gl 0 [a0]) h = F3 call a0 h := Eq.trans (congrFun (congrFun (seq_t (by kernel_rfl) (TS3_11 call) rfl) _) _) (by kernel_rfl)

noncomputable def N3 : FnF
  | call, [a0], h => F3 call a0 h
  | _, _, _ => none

theorem N3_ok : FnOk Try.prog gl 3 N3 := FnOk.of namesOk mixedOrders lowOk Try.func3 (by kernel_rfl) fun call args h r hF => by
  unfold N3 at hF
  split at hF
  · rw [← hF, ← TF3]; exact bodyK_at (by kernel_rfl) (by kernel_rfl) rfl rfl
  · cases hF

noncomputable def c4 : Code := codeOf Try.f4

noncomputable def S4_0 (call : CallF) (t0 : AV) (t3 : AV) (h : Heap) : Res :=
  opt2 (call 12 [t3] h) fun t19 h1 =>
  opt (extractX t19 0) fun t20 =>
  opt (extractX t19 1) fun t21 =>
  opt (lenStr t3) fun t23 =>
  opt (fastBin .leq t23 (.lit (.int .i64 200))) fun t24 =>
  opt2 (call 14 [t3] h1) fun t26 h2 =>
  opt (binX Try.prog .none .eql 4 t26 t24) fun t28 =>
  test t28
  (test t24
  (opt (fastBin .gtr t0 (.lit (.int .i64 0))) fun t34 =>
  opt (binX Try.prog .none .eql 4 t21 t34) fun t36 =>
  test t36
  (opt (notX t21) fun t40 =>
  test t40
  (opt2 (call 10 [] h2) fun t49 h3 =>
  some (t49, h3))
  (opt2 (call 9 [t20] h2) fun t43 h4 =>
  opt (fastBin .eql t43 t3) fun t45 =>
  test t45
  (opt2 (call 10 [] h4) fun t49_1 h5 =>
  some (t49_1, h5))
  (some ((.lit (.bool false)), h4))))
  (some ((.lit (.bool false)), h2)))
  (opt (binX Try.prog .none .eql 4 t21 (.lit (.bool false))) fun t36_1 =>
  test t36_1
  (opt (notX t21) fun t40_1 =>
  test t40_1
  (opt2 (call 10 [] h2) fun t49_2 h6 =>
  some (t49_2, h6))
  (opt2 (call 9 [t20] h2) fun t43_1 h7 =>
  opt (fastBin .eql t43_1 t3) fun t45_1 =>
  test t45_1
  (opt2 (call 10 [] h7) fun t49_3 h8 =>
  some (t49_3, h8))
  (some ((.lit (.bool false)), h7))))
  (some ((.lit (.bool false)), h2))))
  (some ((.lit (.bool false)), h2))

theorem TS4_0 (call : CallF) : (rk Try.prog call 51 (Code.snd (Code.snd (Code.snd (Code.snd c4))))).1 (finK Try.prog Try.f4.results.toList) [] (finK Try.prog Try.f4.results.toList) (fun _ => stuckK) = fun s h => S4_0 call (s.rd 0) (s.rd 3) h := by funext s h; kernel_rfl

noncomputable def S4_2b (call : CallF) (r1 : AV → AV → AV → Heap → Res) (t0 : AV) (t3 : AV) (t4 : AV) (h : Heap) : Res :=
  opt (fastBin .lss t4 t0) fun t12 =>
  test t12
  (opt2 (call 9 [t3] h) fun t16 h1 =>
  opt (fastBin .add t4 (.lit (.int .i64 1))) fun t14 =>
  r1 t0 t16 t14 h1)
  (S4_0 call t0 t3 h)

theorem TS4_2b (call : CallF) (r1 : AV → AV → AV → Heap → Res) : (rk Try.prog call 51 (Code.bd (Code.bd (Code.snd (Code.fst (Code.snd (Code.snd (Code.snd c4)))))))).1 (fun s h => r1 (s.rd 0) (s.rd 3) (s.rd 4) h) [(0, (fun s h => S4_0 call (s.rd 0) (s.rd 3) h))] (finK Try.prog Try.f4.results.toList) (fun _ => stuckK) = fun s h => S4_2b call r1 (s.rd 0) (s.rd 3) (s.rd 4) h := by funext s h; kernel_rfl

noncomputable def S4_1l (call : CallF) : Nat → AV → AV → AV → Heap → Res
  | 0 => fun _ _ _ _ => none
  | k + 1 => S4_2b call (S4_1l call k)

theorem TS4_1l (call : CallF) : (rk Try.prog call 51 (Code.bd (Code.snd (Code.fst (Code.snd (Code.snd (Code.snd c4))))))).1 (fun s h => S4_0 call (s.rd 0) (s.rd 3) h) [(0, (fun s h => S4_0 call (s.rd 0) (s.rd 3) h))] (finK Try.prog Try.f4.results.toList) (fun _ => stuckK) = fun s h => S4_1l call rounds (s.rd 0) (s.rd 3) (s.rd 4) h :=
  loop_t (by kernel_rfl) (loop_ind (A := fun m => fun s h => S4_1l call m (s.rd 0) (s.rd 3) (s.rd 4) h) rfl (fun m => TS4_2b call (S4_1l call m)) rounds)

noncomputable def S4_3 (call : CallF) (t0 : AV) (t3 : AV) (t4 : AV) (h : Heap) : Res :=
  S4_1l call rounds t0 t3 t4 h

theorem TS4_3 (call : CallF) : (rk Try.prog call 51 (Code.snd (Code.fst (Code.snd (Code.snd (Code.snd c4)))))).1 (fun s h => S4_0 call (s.rd 0) (s.rd 3) h) [] (finK Try.prog Try.f4.results.toList) (fun _ => stuckK) = fun s h => S4_3 call (s.rd 0) (s.rd 3) (s.rd 4) h := Eq.trans (block_t (id := 0) (by kernel_rfl) (TS4_1l call)) (by funext s h; kernel_rfl)

noncomputable def S4_4 (call : CallF) (t0 : AV) (t3 : AV) (h : Heap) : Res :=
  S4_3 call t0 t3 (.lit (.int .i64 0)) h

theorem TS4_4 (call : CallF) : (rk Try.prog call 51 (Code.snd (Code.snd (Code.snd c4)))).1 (finK Try.prog Try.f4.results.toList) [] (finK Try.prog Try.f4.results.toList) (fun _ => stuckK) = fun s h => S4_4 call (s.rd 0) (s.rd 3) h := Eq.trans (seq_t (by kernel_rfl) (TS4_0 call) (seq_t (by kernel_rfl) (TS4_3 call) rfl)) (by funext s h; kernel_rfl)

noncomputable def S4_5 (call : CallF) (t0 : AV) (h : Heap) : Res :=
  S4_4 call t0 (.lit (.string ⟨⟨[110, 117, 109]⟩⟩)) h

theorem TS4_5 (call : CallF) : (rk Try.prog call 51 (Code.snd (Code.snd c4))).1 (finK Try.prog Try.f4.results.toList) [] (finK Try.prog Try.f4.results.toList) (fun _ => stuckK) = fun s h => S4_5 call (s.rd 0) h := Eq.trans (seq_t (by kernel_rfl) (TS4_4 call) rfl) (by funext s h; kernel_rfl)

noncomputable def S4_6 (call : CallF) (t0 : AV) (h : Heap) : Res :=
  opt2 (call 15 [t0, (.lit (.int .i64 0)), (.lit (.int .i64 150))] h) fun t9 h1 =>
  S4_5 call t9 h1

theorem TS4_6 (call : CallF) : (rk Try.prog call 51 (Code.snd c4)).1 (finK Try.prog Try.f4.results.toList) [] (finK Try.prog Try.f4.results.toList) (fun _ => stuckK) = fun s h => S4_6 call (s.rd 0) h := Eq.trans (seq_t (by kernel_rfl) (TS4_5 call) rfl) (by funext s h; kernel_rfl)

/-- hawser/hawserlaw5.TypesLong -/
noncomputable def F4 (call : CallF) (a0 : AV) (h : Heap) : Res :=
  S4_6 call a0 h

theorem TF4 (call : CallF) (a0 : AV) (h : Heap) : (rk Try.prog call 51 c4).1 (finK Try.prog Try.f4.results.toList) [] (finK Try.prog Try.f4.results.toList) (fun _ => stuckK) (argsTr gl 0 [a0]) h = F4 call a0 h := Eq.trans (congrFun (congrFun (seq_t (by kernel_rfl) (TS4_6 call) rfl) _) _) (by kernel_rfl)

noncomputable def N4 : FnF
  | call, [a0], h => F4 call a0 h
  | _, _, _ => none

theorem N4_ok : FnOk Try.prog gl 4 N4 := FnOk.of namesOk mixedOrders lowOk Try.func4 (by kernel_rfl) fun call args h r hF => by
  unfold N4 at hF
  split at hF
  · rw [← hF, ← TF4]; exact bodyK_at (by kernel_rfl) (by kernel_rfl) rfl rfl
  · cases hF

noncomputable def c7 : Code := codeOf Try.f7

noncomputable def S7_0 (call : CallF) (t0 : AV) (t1 : AV) (t2 : AV) (t8 : AV) (h : Heap) : Res :=
  opt (fastBin .sub t2 (.lit (.int .i64 1))) fun t76 =>
  opt2 (call 7 [t0, t1, t76] h) fun t77 h1 =>
  opt2 (call 8 [t8, t77] h1) fun t78 h2 =>
  some (t78, h2)

theorem TS7_0 (call : CallF) : (rk Try.prog call 79 (Code.snd (Code.snd (Code.snd (Code.snd (Code.snd (Code.snd (Code.snd (Code.snd c7))))))))).1 (finK Try.prog Try.f7.results.toList) [] (finK Try.prog Try.f7.results.toList) (fun _ => stuckK) = fun s h => S7_0 call (s.rd 0) (s.rd 1) (s.rd 2) (s.rd 8) h := by funext s h; kernel_rfl

noncomputable def S7_2b (call : CallF) (r1 : AV → AV → AV → AV → AV → Heap → Res) (t0 : AV) (t1 : AV) (t2 : AV) (t8 : AV) (t9 : AV) (h : Heap) : Res :=
  opt (fastBin .gtr t9 (.lit (.int .i64 0))) fun t61 =>
  test t61
  (opt (fastBin .sub t2 (.lit (.int .i64 1))) fun t68 =>
  opt2 (call 7 [t0, t1, t68] h) fun t69 h1 =>
  opt2 (bsliceX 1 (.lit (.string ⟨⟨[]⟩⟩)) 1 [(0, t69)] h1) fun t70 h2 =>
  opt2 (appendX 1 16 t8 t70 h2) fun t71 h3 =>
  opt (fastBin .sub t9 (.lit (.int .i64 1))) fun t63 =>
  r1 t0 t1 t2 t71 t63 h3)
  (S7_0 call t0 t1 t2 t8 h)

theorem TS7_2b (call : CallF) (r1 : AV → AV → AV → AV → AV → Heap → Res) : (rk Try.prog call 79 (Code.bd (Code.bd (Code.snd (Code.fst (Code.snd (Code.snd (Code.snd (Code.snd (Code.snd (Code.snd (Code.snd c7)))))))))))).1 (fun s h => r1 (s.rd 0) (s.rd 1) (s.rd 2) (s.rd 8) (s.rd 9) h) [(1, (fun s h => S7_0 call (s.rd 0) (s.rd 1) (s.rd 2) (s.rd 8) h))] (finK Try.prog Try.f7.results.toList) (fun _ => stuckK) = fun s h => S7_2b call r1 (s.rd 0) (s.rd 1) (s.rd 2) (s.rd 8) (s.rd 9) h := by funext s h; kernel_rfl

noncomputable def S7_1l (call : CallF) : Nat → AV → AV → AV → AV → AV → Heap → Res
  | 0 => fun _ _ _ _ _ _ => none
  | k + 1 => S7_2b call (S7_1l call k)

theorem TS7_1l (call : CallF) : (rk Try.prog call 79 (Code.bd (Code.snd (Code.fst (Code.snd (Code.snd (Code.snd (Code.snd (Code.snd (Code.snd (Code.snd c7))))))))))).1 (fun s h => S7_0 call (s.rd 0) (s.rd 1) (s.rd 2) (s.rd 8) h) [(1, (fun s h => S7_0 call (s.rd 0) (s.rd 1) (s.rd 2) (s.rd 8) h))] (finK Try.prog Try.f7.results.toList) (fun _ => stuckK) = fun s h => S7_1l call rounds (s.rd 0) (s.rd 1) (s.rd 2) (s.rd 8) (s.rd 9) h :=
  loop_t (by kernel_rfl) (loop_ind (A := fun m => fun s h => S7_1l call m (s.rd 0) (s.rd 1) (s.rd 2) (s.rd 8) (s.rd 9) h) rfl (fun m => TS7_2b call (S7_1l call m)) rounds)

noncomputable def S7_3 (call : CallF) (t0 : AV) (t1 : AV) (t2 : AV) (t8 : AV) (t9 : AV) (h : Heap) : Res :=
  S7_1l call rounds t0 t1 t2 t8 t9 h

theorem TS7_3 (call : CallF) : (rk Try.prog call 79 (Code.snd (Code.fst (Code.snd (Code.snd (Code.snd (Code.snd (Code.snd (Code.snd (Code.snd c7)))))))))).1 (fun s h => S7_0 call (s.rd 0) (s.rd 1) (s.rd 2) (s.rd 8) h) [] (finK Try.prog Try.f7.results.toList) (fun _ => stuckK) = fun s h => S7_3 call (s.rd 0) (s.rd 1) (s.rd 2) (s.rd 8) (s.rd 9) h := Eq.trans (block_t (id := 1) (by kernel_rfl) (TS7_1l call)) (by funext s h; kernel_rfl)

noncomputable def S7_4 (call : CallF) (t0 : AV) (t1 : AV) (t2 : AV) (t7 : AV) (t8 : AV) (h : Heap) : Res :=
  opt (binX Try.prog .none .rem 3 t7 (.lit (.int .i64 7))) fun t59 =>
  S7_3 call t0 t1 t2 t8 t59 h

theorem TS7_4 (call : CallF) : (rk Try.prog call 79 (Code.snd (Code.snd (Code.snd (Code.snd (Code.snd (Code.snd (Code.snd c7)))))))).1 (finK Try.prog Try.f7.results.toList) [] (finK Try.prog Try.f7.results.toList) (fun _ => stuckK) = fun s h => S7_4 call (s.rd 0) (s.rd 1) (s.rd 2) (s.rd 7) (s.rd 8) h := Eq.trans (seq_t (by kernel_rfl) (TS7_0 call) (seq_t (by kernel_rfl) (TS7_3 call) rfl)) (by funext s h; kernel_rfl)

noncomputable def S7_5 (call : CallF) (t0 : AV) (t1 : AV) (t2 : AV) (t7 : AV) (h : Heap) : Res :=
  S7_4 call t0 t1 t2 t7 (.lit (.slice none 0 0)) h

theorem TS7_5 (call : CallF) : (rk Try.prog call 79 (Code.snd (Code.snd (Code.snd (Code.snd (Code.snd (Code.snd c7))))))).1 (finK Try.prog Try.f7.results.toList) [] (finK Try.prog Try.f7.results.toList) (fun _ => stuckK) = fun s h => S7_5 call (s.rd 0) (s.rd 1) (s.rd 2) (s.rd 7) h := Eq.trans (seq_t (by kernel_rfl) (TS7_4 call) rfl) (by funext s h; kernel_rfl)

noncomputable def S7_6 (call : CallF) (t0 : AV) (t1 : AV) (t2 : AV) (t7 : AV) (h : Heap) : Res :=
  opt (binX Try.prog .none .rem 3 t7 (.lit (.int .i64 5))) fun t38 =>
  opt (fastBin .eql t38 (.lit (.int .i64 0))) fun t40 =>
  test t40
  (some ((.lit (.string ⟨⟨[110, 117, 109]⟩⟩)), h))
  (opt (fastBin .eql t38 (.lit (.int .i64 1))) fun t42 =>
  test t42
  (some ((.lit (.string ⟨⟨[98, 121, 116, 101, 115]⟩⟩)), h))
  (opt (fastBin .eql t38 (.lit (.int .i64 2))) fun t44 =>
  test t44
  (opt2 (bsliceX 1 (.lit (.string ⟨⟨[]⟩⟩)) 3 [(0, (.lit (.string ⟨⟨[109, 46, 84]⟩⟩))), (1, (.lit (.string ⟨⟨[97, 46, 66]⟩⟩))), (2, (.lit (.string ⟨⟨[120, 95, 49, 46, 89]⟩⟩)))] h) fun t45 h1 =>
  opt (binX Try.prog .none .rem 3 t7 (.lit (.int .i64 3))) fun t47 =>
  opt (indexAddrS 1 t45 t47 h1) fun t48 =>
  opt (loadX none t48 h1) fun t49 =>
  some (t49, h1))
  (opt (fastBin .eql t38 (.lit (.int .i64 3))) fun t51 =>
  test t51
  (opt (fastBin .sub t2 (.lit (.int .i64 1))) fun t55 =>
  opt2 (call 7 [t0, t1, t55] h) fun t56 h2 =>
  opt2 (call 9 [t56] h2) fun t57 h3 =>
  some (t57, h3))
  (S7_5 call t0 t1 t2 t7 h))))

theorem TS7_6 (call : CallF) : (rk Try.prog call 79 (Code.snd (Code.snd (Code.snd (Code.snd (Code.snd c7)))))).1 (finK Try.prog Try.f7.results.toList) [] (finK Try.prog Try.f7.results.toList) (fun _ => stuckK) = fun s h => S7_6 call (s.rd 0) (s.rd 1) (s.rd 2) (s.rd 7) h := Eq.trans (seq_t (by kernel_rfl) (TS7_5 call) rfl) (by funext s h; kernel_rfl)

noncomputable def S7_7 (call : CallF) (t0 : AV) (t1 : AV) (t2 : AV) (t7 : AV) (h : Heap) : Res :=
  opt (fastBin .leq t2 (.lit (.int .i64 0))) fun t34 =>
  test t34
  (opt (binX Try.prog .none .rem 3 t7 (.lit (.int .i64 3))) fun t36 =>
  S7_6 call t0 t1 t2 t36 h)
  (S7_6 call t0 t1 t2 t7 h)

theorem TS7_7 (call : CallF) : (rk Try.prog call 79 (Code.snd (Code.snd (Code.snd (Code.snd c7))))).1 (finK Try.prog Try.f7.results.toList) [] (finK Try.prog Try.f7.results.toList) (fun _ => stuckK) = fun s h => S7_7 call (s.rd 0) (s.rd 1) (s.rd 2) (s.rd 7) h := Eq.trans (seq_t (by kernel_rfl) (TS7_6 call) rfl) (by funext s h; kernel_rfl)

noncomputable def S7_8 (call : CallF) (t0 : AV) (t1 : AV) (t2 : AV) (t7 : AV) (h : Heap) : Res :=
  opt (fastBin .lss t7 (.lit (.int .i64 0))) fun t29 =>
  test t29
  (opt (fastBin .add t7 (.lit (.int .i64 1))) fun t31 =>
  opt (litUn Try.prog .neg t31) fun t32 =>
  S7_7 call t0 t1 t2 t32 h)
  (S7_7 call t0 t1 t2 t7 h)

theorem TS7_8 (call : CallF) : (rk Try.prog call 79 (Code.snd (Code.snd (Code.snd c7)))).1 (finK Try.prog Try.f7.results.toList) [] (finK Try.prog Try.f7.results.toList) (fun _ => stuckK) = fun s h => S7_8 call (s.rd 0) (s.rd 1) (s.rd 2) (s.rd 7) h := Eq.trans (seq_t (by kernel_rfl) (TS7_7 call) rfl) (by funext s h; kernel_rfl)

noncomputable def S7_9 (call : CallF) (t0 : AV) (t1 : AV) (t2 : AV) (t7 : AV) (h : Heap) : Res :=
  opt (nilCheckX t1) fun t11 =>
  opt (loadX none t11 h) fun t12 =>
  opt (lenS t0) fun t14 =>
  opt (fastBin .lss t12 t14) fun t15 =>
  test t15
  (opt (nilCheckX t1) fun t18 =>
  opt (loadX none t18 h) fun t19 =>
  opt (indexAddrS 1 t0 t19 h) fun t20 =>
  opt (loadX none t20 h) fun t21 =>
  opt (nilCheckX t1) fun t24 =>
  opt (loadX none t24 h) fun t25 =>
  opt (fastBin .add t25 (.lit (.int .i64 1))) fun t26 =>
  opt (nilCheckX t1) fun t27 =>
  optH (storeX 1 t27 t26 h) fun h1 =>
  S7_8 call t0 t1 t2 t21 h1)
  (S7_8 call t0 t1 t2 t7 h)

theorem TS7_9 (call : CallF) : (rk Try.prog call 79 (Code.snd (Code.snd c7))).1 (finK Try.prog Try.f7.results.toList) [] (finK Try.prog Try.f7.results.toList) (fun _ => stuckK) = fun s h => S7_9 call (s.rd 0) (s.rd 1) (s.rd 2) (s.rd 7) h := Eq.trans (seq_t (by kernel_rfl) (TS7_8 call) rfl) (by funext s h; kernel_rfl)

noncomputable def S7_10 (call : CallF) (t0 : AV) (t1 : AV) (t2 : AV) (h : Heap) : Res :=
  S7_9 call t0 t1 t2 (.lit (.int .i64 0)) h

theorem TS7_10 (call : CallF) : (rk Try.prog call 79 (Code.snd c7)).1 (finK Try.prog Try.f7.results.toList) [] (finK Try.prog Try.f7.results.toList) (fun _ => stuckK) = fun s h => S7_10 call (s.rd 0) (s.rd 1) (s.rd 2) h := Eq.trans (seq_t (by kernel_rfl) (TS7_9 call) rfl) (by funext s h; kernel_rfl)

/-- hawser/hawserlaw5.made -/
noncomputable def F7 (call : CallF) (a0 : AV) (a1 : AV) (a2 : AV) (h : Heap) : Res :=
  S7_10 call a0 a1 a2 h

theorem TF7 (call : CallF) (a0 : AV) (a1 : AV) (a2 : AV) (h : Heap) : (rk Try.prog call 79 c7).1 (finK Try.prog Try.f7.results.toList) [] (finK Try.prog Try.f7.results.toList) (fun _ => stuckK) (argsTr gl 0 [a0, a1, a2]) h = F7 call a0 a1 a2 h := Eq.trans (congrFun (congrFun (seq_t (by kernel_rfl) (TS7_10 call) rfl) _) _) (by kernel_rfl)

noncomputable def N7 : FnF
  | call, [a0, a1, a2], h => F7 call a0 a1 a2 h
  | _, _, _ => none

theorem N7_ok : FnOk Try.prog gl 7 N7 := FnOk.of namesOk mixedOrders lowOk Try.func7 (by kernel_rfl) fun call args h r hF => by
  unfold N7 at hF
  split at hF
  · rw [← hF, ← TF7]; exact bodyK_at (by kernel_rfl) (by kernel_rfl) rfl rfl
  · cases hF

noncomputable def c8 : Code := codeOf Try.f8

/-- hawser/types.Func -/
noncomputable def F8 (call : CallF) (a0 : AV) (a1 : AV) (h : Heap) : Res :=
  opt2 (call 21 [a0, (.lit (.string ⟨⟨[44]⟩⟩))] h) fun t6 h1 =>
  opt (fastBin .add (.lit (.string ⟨⟨[40]⟩⟩)) t6) fun t7 =>
  opt (fastBin .add t7 (.lit (.string ⟨⟨[41]⟩⟩))) fun t8 =>
  opt (fastBin .add t8 a1) fun t10 =>
  some (t10, h1)

theorem TF8 (call : CallF) (a0 : AV) (a1 : AV) (h : Heap) : (rk Try.prog call 11 c8).1 (finK Try.prog Try.f8.results.toList) [] (finK Try.prog Try.f8.results.toList) (fun _ => stuckK) (argsTr gl 0 [a0, a1]) h = F8 call a0 a1 h := by kernel_rfl

noncomputable def N8 : FnF
  | call, [a0, a1], h => F8 call a0 a1 h
  | _, _, _ => none

theorem N8_ok : FnOk Try.prog gl 8 N8 := FnOk.of namesOk mixedOrders lowOk Try.func8 (by kernel_rfl) fun call args h r hF => by
  unfold N8 at hF
  split at hF
  · rw [← hF, ← TF8]; exact bodyK_at (by kernel_rfl) (by kernel_rfl) rfl rfl
  · cases hF

noncomputable def c9 : Code := codeOf Try.f9

/-- hawser/types.Array -/
noncomputable def F9 (call : CallF) (a0 : AV) (h : Heap) : Res :=
  opt (fastBin .add (.lit (.string ⟨⟨[91]⟩⟩)) a0) fun t4 =>
  opt (fastBin .add t4 (.lit (.string ⟨⟨[93]⟩⟩))) fun t5 =>
  some (t5, h)

theorem TF9 (call : CallF) (a0 : AV) (h : Heap) : (rk Try.prog call 6 c9).1 (finK Try.prog Try.f9.results.toList) [] (finK Try.prog Try.f9.results.toList) (fun _ => stuckK) (argsTr gl 0 [a0]) h = F9 call a0 h := by kernel_rfl

noncomputable def N9 : FnF
  | call, [a0], h => F9 call a0 h
  | _, _, _ => none

theorem N9_ok : FnOk Try.prog gl 9 N9 := FnOk.of namesOk mixedOrders lowOk Try.func9 (by kernel_rfl) fun call args h r hF => by
  unfold N9 at hF
  split at hF
  · rw [← hF, ← TF9]; exact bodyK_at (by kernel_rfl) (by kernel_rfl) rfl rfl
  · cases hF

noncomputable def c11 : Code := codeOf Try.f11

noncomputable def S11_0 (call : CallF) (t0 : AV) (h : Heap) : Res :=
  opt2 (call 22 [t0] h) fun t17 h1 =>
  opt (extractX t17 0) fun t18 =>
  opt (extractX t17 1) fun t19 =>
  opt2 (call 23 [t18] h1) fun t21 h2 =>
  eqH h2 h1 (
  opt (fastCut t0 (some t19) none none) fun t24 =>
  eqH h1 h1 (
  some ((.tup [t21, t24, (.lit (.bool true))]), h1)))

theorem TS11_0 (call : CallF) : (rk Try.prog call 25 (Code.snd (Code.snd c11))).1 (finK Try.prog Try.f11.results.toList) [] (finK Try.prog Try.f11.results.toList) (fun _ => stuckK) = fun s h => S11_0 call (s.rd 0) h := by funext s h; kernel_rfl

noncomputable def S11_1 (call : CallF) (t0 : AV) (t14 : AV) (h : Heap) : Res :=
  test t14
  (some ((.tup [(.lit (.slice none 0 0)), (.lit (.string ⟨⟨[]⟩⟩)), (.lit (.bool false))]), h))
  (S11_0 call t0 h)

theorem TS11_1 (call : CallF) : (rk Try.prog call 25 (Code.snd (Code.fst (Code.snd c11)))).1 (fun s h => S11_0 call (s.rd 0) h) [] (finK Try.prog Try.f11.results.toList) (fun _ => stuckK) = fun s h => S11_1 call (s.rd 0) (s.rd 14) h := by funext s h; kernel_rfl

noncomputable def S11_2 (call : CallF) (t0 : AV) (h : Heap) : Res :=
  opt2 (call 14 [t0] h) fun t8 h1 =>
  opt (notX t8) fun t9 =>
  test t9
  (S11_1 call t0 (.lit (.bool true)) h1)
  (opt (fastIndex t0 (.lit (.int .i64 0))) fun t12 =>
  opt (fastBin .neq t12 (.lit (.int .u8 40))) fun t13 =>
  S11_1 call t0 t13 h1)

theorem TS11_2 (call : CallF) : (rk Try.prog call 25 (Code.snd c11)).1 (finK Try.prog Try.f11.results.toList) [] (finK Try.prog Try.f11.results.toList) (fun _ => stuckK) = fun s h => S11_2 call (s.rd 0) h := Eq.trans (seq_t (by kernel_rfl) (TS11_0 call) (seq_t (by kernel_rfl) (TS11_1 call) rfl)) (by funext s h; kernel_rfl)

/-- hawser/types.Parts -/
noncomputable def F11 (call : CallF) (a0 : AV) (h : Heap) : Res :=
  S11_2 call a0 h

theorem TF11 (call : CallF) (a0 : AV) (h : Heap) : (rk Try.prog call 25 c11).1 (finK Try.prog Try.f11.results.toList) [] (finK Try.prog Try.f11.results.toList) (fun _ => stuckK) (argsTr gl 0 [a0]) h = F11 call a0 h := Eq.trans (congrFun (congrFun (seq_t (by kernel_rfl) (TS11_2 call) rfl) _) _) (by kernel_rfl)

noncomputable def N11 : FnF
  | call, [a0], h => F11 call a0 h
  | _, _, _ => none

theorem N11_ok : FnOk Try.prog gl 11 N11 := FnOk.of namesOk mixedOrders lowOk Try.func11 (by kernel_rfl) fun call args h r hF => by
  unfold N11 at hF
  split at hF
  · rw [← hF, ← TF11]; exact bodyK_at (by kernel_rfl) (by kernel_rfl) rfl rfl
  · cases hF

noncomputable def c12 : Code := codeOf Try.f12

noncomputable def S12_0 (call : CallF) (t0 : AV) (h : Heap) : Res :=
  opt (lenStr t0) fun t14 =>
  opt (fastBin .sub t14 (.lit (.int .i64 1))) fun t15 =>
  opt (fastCut t0 (some (.lit (.int .i64 1))) (some t15) none) fun t16 =>
  some ((.tup [t16, (.lit (.bool true))]), h)

theorem TS12_0 (call : CallF) : (rk Try.prog call 17 (Code.snd (Code.snd c12))).1 (finK Try.prog Try.f12.results.toList) [] (finK Try.prog Try.f12.results.toList) (fun _ => stuckK) = fun s h => S12_0 call (s.rd 0) h := by funext s h; kernel_rfl

noncomputable def S12_1 (call : CallF) (t0 : AV) (t11 : AV) (h : Heap) : Res :=
  test t11
  (some ((.tup [(.lit (.string ⟨⟨[]⟩⟩)), (.lit (.bool false))]), h))
  (S12_0 call t0 h)

theorem TS12_1 (call : CallF) : (rk Try.prog call 17 (Code.snd (Code.fst (Code.snd c12)))).1 (fun s h => S12_0 call (s.rd 0) h) [] (finK Try.prog Try.f12.results.toList) (fun _ => stuckK) = fun s h => S12_1 call (s.rd 0) (s.rd 11) h := by funext s h; kernel_rfl

noncomputable def S12_2 (call : CallF) (t0 : AV) (h : Heap) : Res :=
  opt2 (call 14 [t0] h) fun t5 h1 =>
  opt (notX t5) fun t6 =>
  test t6
  (S12_1 call t0 (.lit (.bool true)) h1)
  (opt (fastIndex t0 (.lit (.int .i64 0))) fun t9 =>
  opt (fastBin .neq t9 (.lit (.int .u8 91))) fun t10 =>
  S12_1 call t0 t10 h1)

theorem TS12_2 (call : CallF) : (rk Try.prog call 17 (Code.snd c12)).1 (finK Try.prog Try.f12.results.toList) [] (finK Try.prog Try.f12.results.toList) (fun _ => stuckK) = fun s h => S12_2 call (s.rd 0) h := Eq.trans (seq_t (by kernel_rfl) (TS12_0 call) (seq_t (by kernel_rfl) (TS12_1 call) rfl)) (by funext s h; kernel_rfl)

/-- hawser/types.Elem -/
noncomputable def F12 (call : CallF) (a0 : AV) (h : Heap) : Res :=
  S12_2 call a0 h

theorem TF12 (call : CallF) (a0 : AV) (h : Heap) : (rk Try.prog call 17 c12).1 (finK Try.prog Try.f12.results.toList) [] (finK Try.prog Try.f12.results.toList) (fun _ => stuckK) (argsTr gl 0 [a0]) h = F12 call a0 h := Eq.trans (congrFun (congrFun (seq_t (by kernel_rfl) (TS12_2 call) rfl) _) _) (by kernel_rfl)

noncomputable def N12 : FnF
  | call, [a0], h => F12 call a0 h
  | _, _, _ => none

theorem N12_ok : FnOk Try.prog gl 12 N12 := FnOk.of namesOk mixedOrders lowOk Try.func12 (by kernel_rfl) fun call args h r hF => by
  unfold N12 at hF
  split at hF
  · rw [← hF, ← TF12]; exact bodyK_at (by kernel_rfl) (by kernel_rfl) rfl rfl
  · cases hF

noncomputable def c13 : Code := codeOf Try.f13

noncomputable def S13_0 (call : CallF) (h : Heap) : Res :=
  some ((.lit (.bool true)), h)

theorem TS13_0 (call : CallF) : (rk Try.prog call 26 (Code.snd (Code.snd (Code.snd c13)))).1 (finK Try.prog Try.f13.results.toList) [] (finK Try.prog Try.f13.results.toList) (fun _ => stuckK) = fun s h => S13_0 call h := by funext s h; kernel_rfl

noncomputable def S13_2b (call : CallF) (r1 : AV → AV → AV → Heap → Res) (t0 : AV) (t1 : AV) (t5 : AV) (h : Heap) : Res :=
  opt (lenS t0) fun t13 =>
  opt (fastBin .lss t5 t13) fun t14 =>
  test t14
  (opt (indexAddrS 1 t0 t5 h) fun t19 =>
  eqH h h (
  opt (loadX none t19 h) fun t20 =>
  eqH h h (
  opt (indexAddrS 1 t1 t5 h) fun t23 =>
  eqH h h (
  opt (loadX none t23 h) fun t24 =>
  eqH h h (
  opt (fastBin .neq t20 t24) fun t25 =>
  test t25
  (some ((.lit (.bool false)), h))
  (opt (fastBin .add t5 (.lit (.int .i64 1))) fun t16 =>
  r1 t0 t1 t16 h))))))
  (S13_0 call h)

theorem TS13_2b (call : CallF) (r1 : AV → AV → AV → Heap → Res) : (rk Try.prog call 26 (Code.bd (Code.bd (Code.snd (Code.fst (Code.snd (Code.snd c13))))))).1 (fun s h => r1 (s.rd 0) (s.rd 1) (s.rd 5) h) [(0, (fun s h => S13_0 call h))] (finK Try.prog Try.f13.results.toList) (fun _ => stuckK) = fun s h => S13_2b call r1 (s.rd 0) (s.rd 1) (s.rd 5) h := by funext s h; kernel_rfl

noncomputable def S13_1l (call : CallF) : Nat → AV → AV → AV → Heap → Res
  | 0 => fun _ _ _ _ => none
  | k + 1 => S13_2b call (S13_1l call k)

theorem TS13_1l (call : CallF) : (rk Try.prog call 26 (Code.bd (Code.snd (Code.fst (Code.snd (Code.snd c13)))))).1 (fun s h => S13_0 call h) [(0, (fun s h => S13_0 call h))] (finK Try.prog Try.f13.results.toList) (fun _ => stuckK) = fun s h => S13_1l call rounds (s.rd 0) (s.rd 1) (s.rd 5) h :=
  loop_t (by kernel_rfl) (loop_ind (A := fun m => fun s h => S13_1l call m (s.rd 0) (s.rd 1) (s.rd 5) h) rfl (fun m => TS13_2b call (S13_1l call m)) rounds)

noncomputable def S13_3 (call : CallF) (t0 : AV) (t1 : AV) (t5 : AV) (h : Heap) : Res :=
  S13_1l call rounds t0 t1 t5 h

theorem TS13_3 (call : CallF) : (rk Try.prog call 26 (Code.snd (Code.fst (Code.snd (Code.snd c13))))).1 (fun s h => S13_0 call h) [] (finK Try.prog Try.f13.results.toList) (fun _ => stuckK) = fun s h => S13_3 call (s.rd 0) (s.rd 1) (s.rd 5) h := Eq.trans (block_t (id := 0) (by kernel_rfl) (TS13_1l call)) (by funext s h; kernel_rfl)

noncomputable def S13_4 (call : CallF) (t0 : AV) (t1 : AV) (h : Heap) : Res :=
  S13_3 call t0 t1 (.lit (.int .i64 0)) h

theorem TS13_4 (call : CallF) : (rk Try.prog call 26 (Code.snd (Code.snd c13))).1 (finK Try.prog Try.f13.results.toList) [] (finK Try.prog Try.f13.results.toList) (fun _ => stuckK) = fun s h => S13_4 call (s.rd 0) (s.rd 1) h := Eq.trans (seq_t (by kernel_rfl) (TS13_0 call) (seq_t (by kernel_rfl) (TS13_3 call) rfl)) (by funext s h; kernel_rfl)

noncomputable def S13_5 (call : CallF) (t0 : AV) (t1 : AV) (h : Heap) : Res :=
  opt (lenS t0) fun t7 =>
  opt (lenS t1) fun t9 =>
  opt (fastBin .neq t7 t9) fun t10 =>
  test t10
  (some ((.lit (.bool false)), h))
  (S13_4 call t0 t1 h)

theorem TS13_5 (call : CallF) : (rk Try.prog call 26 (Code.snd c13)).1 (finK Try.prog Try.f13.results.toList) [] (finK Try.prog Try.f13.results.toList) (fun _ => stuckK) = fun s h => S13_5 call (s.rd 0) (s.rd 1) h := Eq.trans (seq_t (by kernel_rfl) (TS13_4 call) rfl) (by funext s h; kernel_rfl)

/-- hawser/hawserbook.Same[string] -/
noncomputable def F13 (call : CallF) (a0 : AV) (a1 : AV) (h : Heap) : Res :=
  S13_5 call a0 a1 h

theorem TF13 (call : CallF) (a0 : AV) (a1 : AV) (h : Heap) : (rk Try.prog call 26 c13).1 (finK Try.prog Try.f13.results.toList) [] (finK Try.prog Try.f13.results.toList) (fun _ => stuckK) (argsTr gl 0 [a0, a1]) h = F13 call a0 a1 h := Eq.trans (congrFun (congrFun (seq_t (by kernel_rfl) (TS13_5 call) rfl) _) _) (by kernel_rfl)

noncomputable def N13 : FnF
  | call, [a0, a1], h => F13 call a0 a1 h
  | _, _, _ => none

theorem N13_ok : FnOk Try.prog gl 13 N13 := FnOk.of namesOk mixedOrders lowOk Try.func13 (by kernel_rfl) fun call args h r hF => by
  unfold N13 at hF
  split at hF
  · rw [← hF, ← TF13]; exact bodyK_at (by kernel_rfl) (by kernel_rfl) rfl rfl
  · cases hF

noncomputable def c14 : Code := codeOf Try.f14

/-- hawser/types.Right -/
noncomputable def F14 (call : CallF) (a0 : AV) (h : Heap) : Res :=
  opt (fastBin .neq a0 (.lit (.string ⟨⟨[]⟩⟩))) fun t4 =>
  test t4
  (opt (lenStr a0) fun t7 =>
  opt (fastBin .leq t7 (.lit (.int .i64 200))) fun t8 =>
  test t8
  (opt2 (call 24 [a0] h) fun t12 h1 =>
  opt (lenStr a0) fun t14 =>
  opt (fastBin .eql t12 t14) fun t15 =>
  some (t15, h1))
  (some ((.lit (.bool false)), h)))
  (some ((.lit (.bool false)), h))

theorem TF14 (call : CallF) (a0 : AV) (h : Heap) : (rk Try.prog call 17 c14).1 (finK Try.prog Try.f14.results.toList) [] (finK Try.prog Try.f14.results.toList) (fun _ => stuckK) (argsTr gl 0 [a0]) h = F14 call a0 h := by kernel_rfl

noncomputable def N14 : FnF
  | call, [a0], h => F14 call a0 h
  | _, _, _ => none

theorem N14_ok : FnOk Try.prog gl 14 N14 := FnOk.of namesOk mixedOrders lowOk Try.func14 (by kernel_rfl) fun call args h r hF => by
  unfold N14 at hF
  split at hF
  · rw [← hF, ← TF14]; exact bodyK_at (by kernel_rfl) (by kernel_rfl) rfl rfl
  · cases hF

noncomputable def c15 : Code := codeOf Try.f15

noncomputable def S15_0 (call : CallF) (t0 : AV) (t1 : AV) (h : Heap) : Res :=
  opt (fastBin .add t1 t0) fun t23 =>
  some (t23, h)

theorem TS15_0 (call : CallF) : (rk Try.prog call 24 (Code.snd (Code.snd (Code.snd c15)))).1 (finK Try.prog Try.f15.results.toList) [] (finK Try.prog Try.f15.results.toList) (fun _ => stuckK) = fun s h => S15_0 call (s.rd 0) (s.rd 1) h := by funext s h; kernel_rfl

noncomputable def S15_1 (call : CallF) (t0 : AV) (t1 : AV) (t2 : AV) (h : Heap) : Res :=
  opt (fastBin .lss t0 (.lit (.int .i64 0))) fun t14 =>
  test t14
  (opt (fastBin .add t0 t2) fun t17 =>
  opt (fastBin .sub t17 t1) fun t19 =>
  opt (fastBin .add t19 (.lit (.int .i64 1))) fun t20 =>
  S15_0 call t20 t1 h)
  (S15_0 call t0 t1 h)

theorem TS15_1 (call : CallF) : (rk Try.prog call 24 (Code.snd (Code.snd c15))).1 (finK Try.prog Try.f15.results.toList) [] (finK Try.prog Try.f15.results.toList) (fun _ => stuckK) = fun s h => S15_1 call (s.rd 0) (s.rd 1) (s.rd 2) h := Eq.trans (seq_t (by kernel_rfl) (TS15_0 call) rfl) (by funext s h; kernel_rfl)

noncomputable def S15_2 (call : CallF) (t0 : AV) (t1 : AV) (t2 : AV) (h : Heap) : Res :=
  opt (fastBin .sub t2 t1) fun t10 =>
  opt (fastBin .add t10 (.lit (.int .i64 1))) fun t11 =>
  opt (binX Try.prog .none .rem 3 t0 t11) fun t12 =>
  S15_1 call t12 t1 t2 h

theorem TS15_2 (call : CallF) : (rk Try.prog call 24 (Code.snd c15)).1 (finK Try.prog Try.f15.results.toList) [] (finK Try.prog Try.f15.results.toList) (fun _ => stuckK) = fun s h => S15_2 call (s.rd 0) (s.rd 1) (s.rd 2) h := Eq.trans (seq_t (by kernel_rfl) (TS15_1 call) rfl) (by funext s h; kernel_rfl)

/-- hawser/hawserbook.Within -/
noncomputable def F15 (call : CallF) (a0 : AV) (a1 : AV) (a2 : AV) (h : Heap) : Res :=
  S15_2 call a0 a1 a2 h

theorem TF15 (call : CallF) (a0 : AV) (a1 : AV) (a2 : AV) (h : Heap) : (rk Try.prog call 24 c15).1 (finK Try.prog Try.f15.results.toList) [] (finK Try.prog Try.f15.results.toList) (fun _ => stuckK) (argsTr gl 0 [a0, a1, a2]) h = F15 call a0 a1 a2 h := Eq.trans (congrFun (congrFun (seq_t (by kernel_rfl) (TS15_2 call) rfl) _) _) (by kernel_rfl)

noncomputable def N15 : FnF
  | call, [a0, a1, a2], h => F15 call a0 a1 a2 h
  | _, _, _ => none

theorem N15_ok : FnOk Try.prog gl 15 N15 := FnOk.of namesOk mixedOrders lowOk Try.func15 (by kernel_rfl) fun call args h r hF => by
  unfold N15 at hF
  split at hF
  · rw [← hF, ← TF15]; exact bodyK_at (by kernel_rfl) (by kernel_rfl) rfl rfl
  · cases hF

noncomputable def c22 : Code := codeOf Try.f22

noncomputable def S22_1 (call : CallF) (r0 : Nat → AV → AV → AV → Heap → Res) (t0 : AV) (t4 : AV) (t5 : AV) (t6 : AV) (h : Heap) : Res :=
  opt (fastBin .add t5 t6) fun t37 =>
  opt (fastCut t0 (some t5) (some t37) none) fun t38 =>
  opt2 (bsliceX 1 (.lit (.string ⟨⟨[]⟩⟩)) 1 [(0, t38)] h) fun t39 h1 =>
  opt2 (appendX 1 16 t4 t39 h1) fun t40 h2 =>
  opt (fastBin .add t5 t6) fun t43 =>
  opt (fastIndex t0 t43) fun t46 =>
  opt (fastBin .eql t46 (.lit (.int .u8 44))) fun t48 =>
  test t48
  (opt (fastBin .add t43 (.lit (.int .i64 1))) fun t50 =>
  r0 0 t0 t40 t50 h2)
  (opt (fastBin .eql t46 (.lit (.int .u8 41))) fun t52 =>
  test t52
  (opt (fastBin .add t43 (.lit (.int .i64 1))) fun t55 =>
  some ((.tup [t40, t55]), h2))
  (some ((.tup [(.lit (.slice none 0 0)), (.lit (.int .i64 0))]), h2)))

theorem TS22_1 (call : CallF) (r0 : Nat → AV → AV → AV → Heap → Res) : (rk Try.prog call 56 (Code.snd (Code.snd (Code.snd (Code.snd (Code.at_ (Code.bd (Code.snd c22)) 0)))))).1 (finK Try.prog Try.f22.results.toList) [] (finK Try.prog Try.f22.results.toList) (fun l s h => r0 l (s.rd 0) (s.rd 4) (s.rd 5) h) = fun s h => S22_1 call r0 (s.rd 0) (s.rd 4) (s.rd 5) (s.rd 6) h := by funext s h; kernel_rfl

noncomputable def S22_2 (call : CallF) (r0 : Nat → AV → AV → AV → Heap → Res) (t0 : AV) (t4 : AV) (t5 : AV) (t6 : AV) (t31 : AV) (h : Heap) : Res :=
  test t31
  (some ((.tup [(.lit (.slice none 0 0)), (.lit (.int .i64 0))]), h))
  (S22_1 call r0 t0 t4 t5 t6 h)

theorem TS22_2 (call : CallF) (r0 : Nat → AV → AV → AV → Heap → Res) : (rk Try.prog call 56 (Code.snd (Code.fst (Code.snd (Code.snd (Code.snd (Code.at_ (Code.bd (Code.snd c22)) 0))))))).1 (fun s h => S22_1 call r0 (s.rd 0) (s.rd 4) (s.rd 5) (s.rd 6) h) [] (finK Try.prog Try.f22.results.toList) (fun l s h => r0 l (s.rd 0) (s.rd 4) (s.rd 5) h) = fun s h => S22_2 call r0 (s.rd 0) (s.rd 4) (s.rd 5) (s.rd 6) (s.rd 31) h := by funext s h; kernel_rfl

noncomputable def S22_3 (call : CallF) (r0 : Nat → AV → AV → AV → Heap → Res) (t0 : AV) (t4 : AV) (t5 : AV) (t6 : AV) (h : Heap) : Res :=
  opt (fastBin .eql t6 (.lit (.int .i64 0))) fun t18 =>
  test t18
  (S22_2 call r0 t0 t4 t5 t6 (.lit (.bool true)) h)
  (opt (fastBin .add t5 t6) fun t22 =>
  opt (lenStr t0) fun t24 =>
  opt (fastBin .geq t22 t24) fun t25 =>
  test t25
  (S22_2 call r0 t0 t4 t5 t6 (.lit (.bool true)) h)
  (opt (lenS t4) fun t29 =>
  opt (fastBin .eql t29 (.lit (.int .i64 6))) fun t30 =>
  S22_2 call r0 t0 t4 t5 t6 t30 h))

theorem TS22_3 (call : CallF) (r0 : Nat → AV → AV → AV → Heap → Res) : (rk Try.prog call 56 (Code.snd (Code.snd (Code.snd (Code.at_ (Code.bd (Code.snd c22)) 0))))).1 (finK Try.prog Try.f22.results.toList) [] (finK Try.prog Try.f22.results.toList) (fun l s h => r0 l (s.rd 0) (s.rd 4) (s.rd 5) h) = fun s h => S22_3 call r0 (s.rd 0) (s.rd 4) (s.rd 5) (s.rd 6) h := Eq.trans (seq_t (by kernel_rfl) (TS22_1 call r0) (seq_t (by kernel_rfl) (TS22_2 call r0) rfl)) (by funext s h; kernel_rfl)

noncomputable def S22_4 (call : CallF) (r0 : Nat → AV → AV → AV → Heap → Res) (t0 : AV) (t4 : AV) (t5 : AV) (t6 : AV) (h : Heap) : Res :=
  opt (lenStr t0) fun t11 =>
  opt (fastBin .lss t5 t11) fun t12 =>
  test t12
  (opt (fastCut t0 (some t5) none none) fun t15 =>
  opt2 (call 24 [t15] h) fun t16 h1 =>
  S22_3 call r0 t0 t4 t5 t16 h1)
  (S22_3 call r0 t0 t4 t5 t6 h)

theorem TS22_4 (call : CallF) (r0 : Nat → AV → AV → AV → Heap → Res) : (rk Try.prog call 56 (Code.snd (Code.snd (Code.at_ (Code.bd (Code.snd c22)) 0)))).1 (finK Try.prog Try.f22.results.toList) [] (finK Try.prog Try.f22.results.toList) (fun l s h => r0 l (s.rd 0) (s.rd 4) (s.rd 5) h) = fun s h => S22_4 call r0 (s.rd 0) (s.rd 4) (s.rd 5) (s.rd 6) h := Eq.trans (seq_t (by kernel_rfl) (TS22_3 call r0) rfl) (by funext s h; kernel_rfl)

noncomputable def S22_5 (call : CallF) (r0 : Nat → AV → AV → AV → Heap → Res) (t0 : AV) (t4 : AV) (t5 : AV) (h : Heap) : Res :=
  S22_4 call r0 t0 t4 t5 (.lit (.int .i64 0)) h

theorem TS22_5 (call : CallF) (r0 : Nat → AV → AV → AV → Heap → Res) : (rk Try.prog call 56 (Code.snd (Code.at_ (Code.bd (Code.snd c22)) 0))).1 (finK Try.prog Try.f22.results.toList) [] (finK Try.prog Try.f22.results.toList) (fun l s h => r0 l (s.rd 0) (s.rd 4) (s.rd 5) h) = fun s h => S22_5 call r0 (s.rd 0) (s.rd 4) (s.rd 5) h := Eq.trans (seq_t (by kernel_rfl) (TS22_4 call r0) rfl) (by funext s h; kernel_rfl)

noncomputable def S22_6L0_ (call : CallF) (r0 : Nat → AV → AV → AV → Heap → Res) (t0 : AV) (t4 : AV) (t5 : AV) (h : Heap) : Res :=
  S22_5 call r0 t0 t4 t5 h

theorem TS22_6L0_ (call : CallF) (r0 : Nat → AV → AV → AV → Heap → Res) : (rk Try.prog call 56 (Code.at_ (Code.bd (Code.snd c22)) 0)).1 (finK Try.prog Try.f22.results.toList) [] (finK Try.prog Try.f22.results.toList) (fun l s h => r0 l (s.rd 0) (s.rd 4) (s.rd 5) h) = fun s h => S22_6L0_ call r0 (s.rd 0) (s.rd 4) (s.rd 5) h := Eq.trans (seq_t (by kernel_rfl) (TS22_5 call r0) rfl) (by funext s h; kernel_rfl)

noncomputable def S22_0g (call : CallF) : Nat → Nat → AV → AV → AV → Heap → Res
  | 0 => fun _ _ _ _ _ => none
  | k + 1 => fun l => match l with
    | 0 => S22_6L0_ call (S22_0g call k)
    | _ => fun _ _ _ _ => none

theorem TS22_0g (call : CallF) : jumpK (fun l kg' => match (rk Try.prog call 56 (Code.bd (Code.snd c22))).2 l with | some f => some (f (finK Try.prog Try.f22.results.toList) [] (finK Try.prog Try.f22.results.toList) kg') | none => none) (fun _ => stuckK) rounds = fun l s h => S22_0g call rounds l (s.rd 0) (s.rd 4) (s.rd 5) h :=
  jump_ind (J := fun m => fun l s h => S22_0g call m l (s.rd 0) (s.rd 4) (s.rd 5) h) rfl (fun m l => match l with
    | 0 => by rw [show findLabel (Code.bd (Code.snd c22)) 0 = some (Code.at_ (Code.bd (Code.snd c22)) 0) by kernel_rfl]; exact TS22_6L0_ call (S22_0g call m)
    | l + 1 => by rw [show findLabel (Code.bd (Code.snd c22)) (l + 1) = none by kernel_rfl]; rfl) rounds

noncomputable def S22_7 (call : CallF) (t0 : AV) (t4 : AV) (t5 : AV) (t6 : AV) (h : Heap) : Res :=
  opt (fastBin .add t5 t6) fun t37 =>
  opt (fastCut t0 (some t5) (some t37) none) fun t38 =>
  opt2 (bsliceX 1 (.lit (.string ⟨⟨[]⟩⟩)) 1 [(0, t38)] h) fun t39 h1 =>
  opt2 (appendX 1 16 t4 t39 h1) fun t40 h2 =>
  opt (fastBin .add t5 t6) fun t43 =>
  opt (fastIndex t0 t43) fun t46 =>
  opt (fastBin .eql t46 (.lit (.int .u8 44))) fun t48 =>
  test t48
  (opt (fastBin .add t43 (.lit (.int .i64 1))) fun t50 =>
  S22_0g call rounds 0 t0 t40 t50 h2)
  (opt (fastBin .eql t46 (.lit (.int .u8 41))) fun t52 =>
  test t52
  (opt (fastBin .add t43 (.lit (.int .i64 1))) fun t55 =>
  some ((.tup [t40, t55]), h2))
  (some ((.tup [(.lit (.slice none 0 0)), (.lit (.int .i64 0))]), h2)))

theorem TS22_7 (call : CallF) : (rk Try.prog call 56 (Code.snd (Code.snd (Code.snd (Code.snd (Code.snd (Code.snd (Code.snd (Code.bd (Code.snd c22)))))))))).1 (finK Try.prog Try.f22.results.toList) [] (finK Try.prog Try.f22.results.toList) (fun l s h => S22_0g call rounds l (s.rd 0) (s.rd 4) (s.rd 5) h) = fun s h => S22_7 call (s.rd 0) (s.rd 4) (s.rd 5) (s.rd 6) h := by funext s h; kernel_rfl

noncomputable def S22_8 (call : CallF) (t0 : AV) (t4 : AV) (t5 : AV) (t6 : AV) (t31 : AV) (h : Heap) : Res :=
  test t31
  (some ((.tup [(.lit (.slice none 0 0)), (.lit (.int .i64 0))]), h))
  (S22_7 call t0 t4 t5 t6 h)

theorem TS22_8 (call : CallF) : (rk Try.prog call 56 (Code.snd (Code.fst (Code.snd (Code.snd (Code.snd (Code.snd (Code.snd (Code.snd (Code.bd (Code.snd c22))))))))))).1 (fun s h => S22_7 call (s.rd 0) (s.rd 4) (s.rd 5) (s.rd 6) h) [] (finK Try.prog Try.f22.results.toList) (fun l s h => S22_0g call rounds l (s.rd 0) (s.rd 4) (s.rd 5) h) = fun s h => S22_8 call (s.rd 0) (s.rd 4) (s.rd 5) (s.rd 6) (s.rd 31) h := by funext s h; kernel_rfl

noncomputable def S22_9 (call : CallF) (t0 : AV) (t4 : AV) (t5 : AV) (t6 : AV) (h : Heap) : Res :=
  opt (fastBin .eql t6 (.lit (.int .i64 0))) fun t18 =>
  test t18
  (S22_8 call t0 t4 t5 t6 (.lit (.bool true)) h)
  (opt (fastBin .add t5 t6) fun t22 =>
  opt (lenStr t0) fun t24 =>
  opt (fastBin .geq t22 t24) fun t25 =>
  test t25
  (S22_8 call t0 t4 t5 t6 (.lit (.bool true)) h)
  (opt (lenS t4) fun t29 =>
  opt (fastBin .eql t29 (.lit (.int .i64 6))) fun t30 =>
  S22_8 call t0 t4 t5 t6 t30 h))

theorem TS22_9 (call : CallF) : (rk Try.prog call 56 (Code.snd (Code.snd (Code.snd (Code.snd (Code.snd (Code.snd (Code.bd (Code.snd c22))))))))).1 (finK Try.prog Try.f22.results.toList) [] (finK Try.prog Try.f22.results.toList) (fun l s h => S22_0g call rounds l (s.rd 0) (s.rd 4) (s.rd 5) h) = fun s h => S22_9 call (s.rd 0) (s.rd 4) (s.rd 5) (s.rd 6) h := Eq.trans (seq_t (by kernel_rfl) (TS22_7 call) (seq_t (by kernel_rfl) (TS22_8 call) rfl)) (by funext s h; kernel_rfl)

noncomputable def S22_10 (call : CallF) (t0 : AV) (t4 : AV) (t5 : AV) (t6 : AV) (h : Heap) : Res :=
  opt (lenStr t0) fun t11 =>
  opt (fastBin .lss t5 t11) fun t12 =>
  test t12
  (opt (fastCut t0 (some t5) none none) fun t15 =>
  opt2 (call 24 [t15] h) fun t16 h1 =>
  S22_9 call t0 t4 t5 t16 h1)
  (S22_9 call t0 t4 t5 t6 h)

theorem TS22_10 (call : CallF) : (rk Try.prog call 56 (Code.snd (Code.snd (Code.snd (Code.snd (Code.snd (Code.bd (Code.snd c22)))))))).1 (finK Try.prog Try.f22.results.toList) [] (finK Try.prog Try.f22.results.toList) (fun l s h => S22_0g call rounds l (s.rd 0) (s.rd 4) (s.rd 5) h) = fun s h => S22_10 call (s.rd 0) (s.rd 4) (s.rd 5) (s.rd 6) h := Eq.trans (seq_t (by kernel_rfl) (TS22_9 call) rfl) (by funext s h; kernel_rfl)

noncomputable def S22_11 (call : CallF) (t0 : AV) (t4 : AV) (t5 : AV) (h : Heap) : Res :=
  S22_10 call t0 t4 t5 (.lit (.int .i64 0)) h

theorem TS22_11 (call : CallF) : (rk Try.prog call 56 (Code.snd (Code.snd (Code.snd (Code.snd (Code.bd (Code.snd c22))))))).1 (finK Try.prog Try.f22.results.toList) [] (finK Try.prog Try.f22.results.toList) (fun l s h => S22_0g call rounds l (s.rd 0) (s.rd 4) (s.rd 5) h) = fun s h => S22_11 call (s.rd 0) (s.rd 4) (s.rd 5) h := Eq.trans (seq_t (by kernel_rfl) (TS22_10 call) rfl) (by funext s h; kernel_rfl)

noncomputable def S22_12 (call : CallF) (t0 : AV) (t4 : AV) (t5 : AV) (h : Heap) : Res :=
  S22_11 call t0 t4 t5 h

theorem TS22_12 (call : CallF) : (rk Try.prog call 56 (Code.snd (Code.snd (Code.snd (Code.bd (Code.snd c22)))))).1 (finK Try.prog Try.f22.results.toList) [] (finK Try.prog Try.f22.results.toList) (fun l s h => S22_0g call rounds l (s.rd 0) (s.rd 4) (s.rd 5) h) = fun s h => S22_12 call (s.rd 0) (s.rd 4) (s.rd 5) h := Eq.trans (seq_t (by kernel_rfl) (TS22_11 call) rfl) (by funext s h; kernel_rfl)

noncomputable def S22_13 (call : CallF) (t0 : AV) (t4 : AV) (t5 : AV) (h : Heap) : Res :=
  opt2 (call 39 [t0, (.lit (.string ⟨⟨[40, 41]⟩⟩))] h) fun t8 h1 =>
  test t8
  (some ((.tup [(.lit (.slice none 0 0)), (.lit (.int .i64 2))]), h1))
  (S22_12 call t0 t4 t5 h1)

theorem TS22_13 (call : CallF) : (rk Try.prog call 56 (Code.snd (Code.snd (Code.bd (Code.snd c22))))).1 (finK Try.prog Try.f22.results.toList) [] (finK Try.prog Try.f22.results.toList) (fun l s h => S22_0g call rounds l (s.rd 0) (s.rd 4) (s.rd 5) h) = fun s h => S22_13 call (s.rd 0) (s.rd 4) (s.rd 5) h := Eq.trans (seq_t (by kernel_rfl) (TS22_12 call) rfl) (by funext s h; kernel_rfl)

noncomputable def S22_14 (call : CallF) (t0 : AV) (t4 : AV) (h : Heap) : Res :=
  S22_13 call t0 t4 (.lit (.int .i64 1)) h

theorem TS22_14 (call : CallF) : (rk Try.prog call 56 (Code.snd (Code.bd (Code.snd c22)))).1 (finK Try.prog Try.f22.results.toList) [] (finK Try.prog Try.f22.results.toList) (fun l s h => S22_0g call rounds l (s.rd 0) (s.rd 4) (s.rd 5) h) = fun s h => S22_14 call (s.rd 0) (s.rd 4) h := Eq.trans (seq_t (by kernel_rfl) (TS22_13 call) rfl) (by funext s h; kernel_rfl)

noncomputable def S22_15 (call : CallF) (t0 : AV) (h : Heap) : Res :=
  S22_14 call t0 (.lit (.slice none 0 0)) h

theorem TS22_15 (call : CallF) : (rk Try.prog call 56 (Code.snd c22)).1 (finK Try.prog Try.f22.results.toList) [] (finK Try.prog Try.f22.results.toList) (fun _ => stuckK) = fun s h => S22_15 call (s.rd 0) h := Eq.trans (scope_t (by kernel_rfl) (TS22_0g call) (seq_t (by kernel_rfl) (TS22_14 call) rfl)) (by funext s h; kernel_rfl)

/-- hawser/types.params -/
noncomputable def F22 (call : CallF) (a0 : AV) (h : Heap) : Res :=
  S22_15 call a0 h

theorem TF22 (call : CallF) (a0 : AV) (h : Heap) : (rk Try.prog call 56 c22).1 (finK Try.prog Try.f22.results.toList) [] (finK Try.prog Try.f22.results.toList) (fun _ => stuckK) (argsTr gl 0 [a0]) h = F22 call a0 h := Eq.trans (congrFun (congrFun (seq_t (by kernel_rfl) (TS22_15 call) rfl) _) _) (by kernel_rfl)

noncomputable def N22 : FnF
  | call, [a0], h => F22 call a0 h
  | _, _, _ => none

theorem N22_ok : FnOk Try.prog gl 22 N22 := FnOk.of namesOk mixedOrders lowOk Try.func22 (by kernel_rfl) fun call args h r hF => by
  unfold N22 at hF
  split at hF
  · rw [← hF, ← TF22]; exact bodyK_at (by kernel_rfl) (by kernel_rfl) rfl rfl
  · cases hF

noncomputable def c23 : Code := codeOf Try.f23

/-- slices.Clone[[]string,string] -/
noncomputable def F23 (call : CallF) (a0 : AV) (h : Heap) : Res :=
  opt (binX Try.prog .slice .eql 23 a0 (.lit (.slice none 0 0))) fun t4 =>
  test t4
  (some ((.lit (.slice none 0 0)), h))
  (opt2 (bsliceX 1 (.lit (.string ⟨⟨[]⟩⟩)) 0 [] h) fun t5 h1 =>
  opt2 (appendX 1 16 t5 a0 h1) fun t7 h2 =>
  some (t7, h2))

theorem TF23 (call : CallF) (a0 : AV) (h : Heap) : (rk Try.prog call 8 c23).1 (finK Try.prog Try.f23.results.toList) [] (finK Try.prog Try.f23.results.toList) (fun _ => stuckK) (argsTr gl 0 [a0]) h = F23 call a0 h := by kernel_rfl

noncomputable def N23 : FnF
  | call, [a0], h => F23 call a0 h
  | _, _, _ => none

theorem N23_ok : FnOk Try.prog gl 23 N23 := FnOk.of namesOk mixedOrders lowOk Try.func23 (by kernel_rfl) fun call args h r hF => by
  unfold N23 at hF
  split at hF
  · rw [← hF, ← TF23]; exact bodyK_at (by kernel_rfl) (by kernel_rfl) rfl rfl
  · cases hF

noncomputable def c24 : Code := codeOf Try.f24

noncomputable def S24_1 (call : CallF) (r0 : Nat → AV → AV → AV → Heap → Res) (t0 : AV) (t3 : AV) (t4 : AV) (h : Heap) : Res :=
  opt (fastBin .add t3 (.lit (.int .i64 1))) fun t103 =>
  opt (fastBin .sub t4 (.lit (.int .i64 1))) fun t105 =>
  r0 0 t0 t103 t105 h

theorem TS24_1 (call : CallF) (r0 : Nat → AV → AV → AV → Heap → Res) : (rk Try.prog call 107 (Code.snd (Code.thn (Code.snd (Code.fst (Code.snd (Code.at_ (Code.bd (Code.snd c24)) 0))))))).1 ((rk Try.prog call 107 (Code.snd (Code.snd (Code.at_ (Code.bd (Code.snd c24)) 0)))).1 (finK Try.prog Try.f24.results.toList) [] (finK Try.prog Try.f24.results.toList) (fun l s h => r0 l (s.rd 0) (s.rd 3) (s.rd 4) h)) [] (finK Try.prog Try.f24.results.toList) (fun l s h => r0 l (s.rd 0) (s.rd 3) (s.rd 4) h) = fun s h => S24_1 call r0 (s.rd 0) (s.rd 3) (s.rd 4) h := by funext s h; kernel_rfl

noncomputable def S24_2 (call : CallF) (r0 : Nat → AV → AV → AV → Heap → Res) (t0 : AV) (t3 : AV) (t4 : AV) (h : Heap) : Res :=
  opt (lenStr t0) fun t94 =>
  opt (fastBin .geq t3 t94) fun t95 =>
  test t95
  (some ((.lit (.int .i64 0)), h))
  (opt (fastIndex t0 t3) fun t99 =>
  opt (fastBin .neq t99 (.lit (.int .u8 93))) fun t100 =>
  test t100
  (some ((.lit (.int .i64 0)), h))
  (S24_1 call r0 t0 t3 t4 h))

theorem TS24_2 (call : CallF) (r0 : Nat → AV → AV → AV → Heap → Res) : (rk Try.prog call 107 (Code.thn (Code.snd (Code.fst (Code.snd (Code.at_ (Code.bd (Code.snd c24)) 0)))))).1 ((rk Try.prog call 107 (Code.snd (Code.snd (Code.at_ (Code.bd (Code.snd c24)) 0)))).1 (finK Try.prog Try.f24.results.toList) [] (finK Try.prog Try.f24.results.toList) (fun l s h => r0 l (s.rd 0) (s.rd 3) (s.rd 4) h)) [] (finK Try.prog Try.f24.results.toList) (fun l s h => r0 l (s.rd 0) (s.rd 3) (s.rd 4) h) = fun s h => S24_2 call r0 (s.rd 0) (s.rd 3) (s.rd 4) h := Eq.trans (seq_t (by kernel_rfl) (TS24_1 call r0) rfl) (by funext s h; kernel_rfl)

noncomputable def S24_3 (call : CallF) (r0 : Nat → AV → AV → AV → Heap → Res) (t0 : AV) (t3 : AV) (t4 : AV) (t91 : AV) (h : Heap) : Res :=
  test t91
  (S24_2 call r0 t0 t3 t4 h)
  (some (t3, h))

theorem TS24_3 (call : CallF) (r0 : Nat → AV → AV → AV → Heap → Res) : (rk Try.prog call 107 (Code.snd (Code.fst (Code.snd (Code.at_ (Code.bd (Code.snd c24)) 0))))).1 ((rk Try.prog call 107 (Code.snd (Code.snd (Code.at_ (Code.bd (Code.snd c24)) 0)))).1 (finK Try.prog Try.f24.results.toList) [] (finK Try.prog Try.f24.results.toList) (fun l s h => r0 l (s.rd 0) (s.rd 3) (s.rd 4) h)) [] (finK Try.prog Try.f24.results.toList) (fun l s h => r0 l (s.rd 0) (s.rd 3) (s.rd 4) h) = fun s h => S24_3 call r0 (s.rd 0) (s.rd 3) (s.rd 4) (s.rd 91) h := Eq.trans (cond_t (by kernel_rfl) (TS24_2 call r0) rfl) (by funext s h; kernel_rfl)

noncomputable def S24_4 (call : CallF) (r0 : Nat → AV → AV → AV → Heap → Res) (t0 : AV) (t3 : AV) (t4 : AV) (h : Heap) : Res :=
  opt (fastBin .gtr t4 (.lit (.int .i64 0))) fun t91 =>
  S24_3 call r0 t0 t3 t4 t91 h

theorem TS24_4 (call : CallF) (r0 : Nat → AV → AV → AV → Heap → Res) : (rk Try.prog call 107 (Code.snd (Code.at_ (Code.bd (Code.snd c24)) 0))).1 (finK Try.prog Try.f24.results.toList) [] (finK Try.prog Try.f24.results.toList) (fun l s h => r0 l (s.rd 0) (s.rd 3) (s.rd 4) h) = fun s h => S24_4 call r0 (s.rd 0) (s.rd 3) (s.rd 4) h := Eq.trans (seq_t (by kernel_rfl) rfl (seq_t (by kernel_rfl) (TS24_3 call r0) rfl)) (by funext s h; kernel_rfl)

noncomputable def S24_5L0_ (call : CallF) (r0 : Nat → AV → AV → AV → Heap → Res) (t0 : AV) (t3 : AV) (t4 : AV) (h : Heap) : Res :=
  S24_4 call r0 t0 t3 t4 h

theorem TS24_5L0_ (call : CallF) (r0 : Nat → AV → AV → AV → Heap → Res) : (rk Try.prog call 107 (Code.at_ (Code.bd (Code.snd c24)) 0)).1 (finK Try.prog Try.f24.results.toList) [] (finK Try.prog Try.f24.results.toList) (fun l s h => r0 l (s.rd 0) (s.rd 3) (s.rd 4) h) = fun s h => S24_5L0_ call r0 (s.rd 0) (s.rd 3) (s.rd 4) h := Eq.trans (seq_t (by kernel_rfl) (TS24_4 call r0) rfl) (by funext s h; kernel_rfl)

noncomputable def S24_0g (call : CallF) : Nat → Nat → AV → AV → AV → Heap → Res
  | 0 => fun _ _ _ _ _ => none
  | k + 1 => fun l => match l with
    | 0 => S24_5L0_ call (S24_0g call k)
    | _ => fun _ _ _ _ => none

theorem TS24_0g (call : CallF) : jumpK (fun l kg' => match (rk Try.prog call 107 (Code.bd (Code.snd c24))).2 l with | some f => some (f (finK Try.prog Try.f24.results.toList) [] (finK Try.prog Try.f24.results.toList) kg') | none => none) (fun _ => stuckK) rounds = fun l s h => S24_0g call rounds l (s.rd 0) (s.rd 3) (s.rd 4) h :=
  jump_ind (J := fun m => fun l s h => S24_0g call m l (s.rd 0) (s.rd 3) (s.rd 4) h) rfl (fun m l => match l with
    | 0 => by rw [show findLabel (Code.bd (Code.snd c24)) 0 = some (Code.at_ (Code.bd (Code.snd c24)) 0) by kernel_rfl]; exact TS24_5L0_ call (S24_0g call m)
    | l + 1 => by rw [show findLabel (Code.bd (Code.snd c24)) (l + 1) = none by kernel_rfl]; rfl) rounds

noncomputable def S24_6 (call : CallF) (t0 : AV) (t3 : AV) (t4 : AV) (h : Heap) : Res :=
  opt (fastBin .add t3 (.lit (.int .i64 1))) fun t103 =>
  opt (fastBin .sub t4 (.lit (.int .i64 1))) fun t105 =>
  S24_0g call rounds 0 t0 t103 t105 h

theorem TS24_6 (call : CallF) : (rk Try.prog call 107 (Code.snd (Code.thn (Code.snd (Code.fst (Code.snd (Code.snd (Code.snd (Code.snd (Code.snd (Code.snd (Code.bd (Code.snd c24))))))))))))).1 ((rk Try.prog call 107 (Code.snd (Code.snd (Code.snd (Code.snd (Code.snd (Code.snd (Code.snd (Code.bd (Code.snd c24)))))))))).1 (finK Try.prog Try.f24.results.toList) [] (finK Try.prog Try.f24.results.toList) (fun l s h => S24_0g call rounds l (s.rd 0) (s.rd 3) (s.rd 4) h)) [] (finK Try.prog Try.f24.results.toList) (fun l s h => S24_0g call rounds l (s.rd 0) (s.rd 3) (s.rd 4) h) = fun s h => S24_6 call (s.rd 0) (s.rd 3) (s.rd 4) h := by funext s h; kernel_rfl

noncomputable def S24_7 (call : CallF) (t0 : AV) (t3 : AV) (t4 : AV) (h : Heap) : Res :=
  opt (lenStr t0) fun t94 =>
  opt (fastBin .geq t3 t94) fun t95 =>
  test t95
  (some ((.lit (.int .i64 0)), h))
  (opt (fastIndex t0 t3) fun t99 =>
  opt (fastBin .neq t99 (.lit (.int .u8 93))) fun t100 =>
  test t100
  (some ((.lit (.int .i64 0)), h))
  (S24_6 call t0 t3 t4 h))

theorem TS24_7 (call : CallF) : (rk Try.prog call 107 (Code.thn (Code.snd (Code.fst (Code.snd (Code.snd (Code.snd (Code.snd (Code.snd (Code.snd (Code.bd (Code.snd c24)))))))))))).1 ((rk Try.prog call 107 (Code.snd (Code.snd (Code.snd (Code.snd (Code.snd (Code.snd (Code.snd (Code.bd (Code.snd c24)))))))))).1 (finK Try.prog Try.f24.results.toList) [] (finK Try.prog Try.f24.results.toList) (fun l s h => S24_0g call rounds l (s.rd 0) (s.rd 3) (s.rd 4) h)) [] (finK Try.prog Try.f24.results.toList) (fun l s h => S24_0g call rounds l (s.rd 0) (s.rd 3) (s.rd 4) h) = fun s h => S24_7 call (s.rd 0) (s.rd 3) (s.rd 4) h := Eq.trans (seq_t (by kernel_rfl) (TS24_6 call) rfl) (by funext s h; kernel_rfl)

noncomputable def S24_8 (call : CallF) (t0 : AV) (t3 : AV) (t4 : AV) (t91 : AV) (h : Heap) : Res :=
  test t91
  (S24_7 call t0 t3 t4 h)
  (some (t3, h))

theorem TS24_8 (call : CallF) : (rk Try.prog call 107 (Code.snd (Code.fst (Code.snd (Code.snd (Code.snd (Code.snd (Code.snd (Code.snd (Code.bd (Code.snd c24))))))))))).1 ((rk Try.prog call 107 (Code.snd (Code.snd (Code.snd (Code.snd (Code.snd (Code.snd (Code.snd (Code.bd (Code.snd c24)))))))))).1 (finK Try.prog Try.f24.results.toList) [] (finK Try.prog Try.f24.results.toList) (fun l s h => S24_0g call rounds l (s.rd 0) (s.rd 3) (s.rd 4) h)) [] (finK Try.prog Try.f24.results.toList) (fun l s h => S24_0g call rounds l (s.rd 0) (s.rd 3) (s.rd 4) h) = fun s h => S24_8 call (s.rd 0) (s.rd 3) (s.rd 4) (s.rd 91) h := Eq.trans (cond_t (by kernel_rfl) (TS24_7 call) rfl) (by funext s h; kernel_rfl)

noncomputable def S24_9 (call : CallF) (t0 : AV) (t3 : AV) (t4 : AV) (h : Heap) : Res :=
  opt (fastBin .gtr t4 (.lit (.int .i64 0))) fun t91 =>
  S24_8 call t0 t3 t4 t91 h

theorem TS24_9 (call : CallF) : (rk Try.prog call 107 (Code.snd (Code.snd (Code.snd (Code.snd (Code.snd (Code.snd (Code.bd (Code.snd c24))))))))).1 (finK Try.prog Try.f24.results.toList) [] (finK Try.prog Try.f24.results.toList) (fun l s h => S24_0g call rounds l (s.rd 0) (s.rd 3) (s.rd 4) h) = fun s h => S24_9 call (s.rd 0) (s.rd 3) (s.rd 4) h := Eq.trans (seq_t (by kernel_rfl) rfl (seq_t (by kernel_rfl) (TS24_8 call) rfl)) (by funext s h; kernel_rfl)

noncomputable def S24_10 (call : CallF) (t0 : AV) (t3 : AV) (t4 : AV) (h : Heap) : Res :=
  S24_9 call t0 t3 t4 h

theorem TS24_10 (call : CallF) : (rk Try.prog call 107 (Code.snd (Code.snd (Code.snd (Code.snd (Code.snd (Code.bd (Code.snd c24)))))))).1 (finK Try.prog Try.f24.results.toList) [] (finK Try.prog Try.f24.results.toList) (fun l s h => S24_0g call rounds l (s.rd 0) (s.rd 3) (s.rd 4) h) = fun s h => S24_10 call (s.rd 0) (s.rd 3) (s.rd 4) h := Eq.trans (seq_t (by kernel_rfl) (TS24_9 call) rfl) (by funext s h; kernel_rfl)

noncomputable def S24_11 (call : CallF) (t0 : AV) (t3 : AV) (t4 : AV) (t8 : AV) (h : Heap) : Res :=
  opt (fastBin .add t3 t8) fun t89 =>
  S24_10 call t0 t89 t4 h

theorem TS24_11 (call : CallF) : (rk Try.prog call 107 (Code.snd (Code.snd (Code.snd (Code.snd (Code.fst (Code.snd (Code.snd (Code.snd (Code.snd (Code.bd (Code.snd c24)))))))))))).1 (fun s h => S24_10 call (s.rd 0) (s.rd 3) (s.rd 4) h) [] (finK Try.prog Try.f24.results.toList) (fun l s h => S24_0g call rounds l (s.rd 0) (s.rd 3) (s.rd 4) h) = fun s h => S24_11 call (s.rd 0) (s.rd 3) (s.rd 4) (s.rd 8) h := by funext s h; kernel_rfl

noncomputable def S24_12 (call : CallF) (t0 : AV) (t3 : AV) (t4 : AV) (t8 : AV) (t9 : AV) (h : Heap) : Res :=
  opt2 (call 31 [t9] h) fun t76 h1 =>
  opt (extractX t76 0) fun t77 =>
  opt (extractX t76 1) fun t78 =>
  opt (extractX t76 2) fun t79 =>
  opt (notX t79) fun t81 =>
  test t81
  (opt2 (call 33 [t9] h1) fun t84 h2 =>
  opt (notX t84) fun t85 =>
  test t85
  (some ((.lit (.int .i64 0)), h2))
  (S24_11 call t0 t3 t4 t8 h2))
  (S24_11 call t0 t3 t4 t8 h1)

theorem TS24_12 (call : CallF) : (rk Try.prog call 107 (Code.snd (Code.snd (Code.snd (Code.fst (Code.snd (Code.snd (Code.snd (Code.snd (Code.bd (Code.snd c24))))))))))).1 (fun s h => S24_10 call (s.rd 0) (s.rd 3) (s.rd 4) h) [] (finK Try.prog Try.f24.results.toList) (fun l s h => S24_0g call rounds l (s.rd 0) (s.rd 3) (s.rd 4) h) = fun s h => S24_12 call (s.rd 0) (s.rd 3) (s.rd 4) (s.rd 8) (s.rd 9) h := Eq.trans (seq_t (by kernel_rfl) (TS24_11 call) rfl) (by funext s h; kernel_rfl)

noncomputable def S24_13 (call : CallF) (t0 : AV) (t3 : AV) (t4 : AV) (t8 : AV) (h : Heap) : Res :=
  opt (fastBin .add t3 t8) fun t72 =>
  opt (fastCut t0 (some t3) (some t72) none) fun t73 =>
  S24_12 call t0 t3 t4 t8 t73 h

theorem TS24_13 (call : CallF) : (rk Try.prog call 107 (Code.snd (Code.snd (Code.fst (Code.snd (Code.snd (Code.snd (Code.snd (Code.bd (Code.snd c24)))))))))).1 (fun s h => S24_10 call (s.rd 0) (s.rd 3) (s.rd 4) h) [] (finK Try.prog Try.f24.results.toList) (fun l s h => S24_0g call rounds l (s.rd 0) (s.rd 3) (s.rd 4) h) = fun s h => S24_13 call (s.rd 0) (s.rd 3) (s.rd 4) (s.rd 8) h := Eq.trans (seq_t (by kernel_rfl) (TS24_12 call) rfl) (by funext s h; kernel_rfl)

noncomputable def S24_14 (call : CallF) (t0 : AV) (t3 : AV) (t4 : AV) (t8 : AV) (h : Heap) : Res :=
  opt (fastBin .lss t8 (.lit (.int .i64 0))) fun t63 =>
  test t63
  (opt (lenStr t0) fun t65 =>
  opt (fastBin .sub t65 t3) fun t67 =>
  S24_13 call t0 t3 t4 t67 h)
  (S24_13 call t0 t3 t4 t8 h)

theorem TS24_14 (call : CallF) : (rk Try.prog call 107 (Code.snd (Code.fst (Code.snd (Code.snd (Code.snd (Code.snd (Code.bd (Code.snd c24))))))))).1 (fun s h => S24_10 call (s.rd 0) (s.rd 3) (s.rd 4) h) [] (finK Try.prog Try.f24.results.toList) (fun l s h => S24_0g call rounds l (s.rd 0) (s.rd 3) (s.rd 4) h) = fun s h => S24_14 call (s.rd 0) (s.rd 3) (s.rd 4) (s.rd 8) h := Eq.trans (seq_t (by kernel_rfl) (TS24_13 call) rfl) (by funext s h; kernel_rfl)

noncomputable def S24_15 (call : CallF) (t0 : AV) (t3 : AV) (t4 : AV) (h : Heap) : Res :=
  opt (fastCut t0 (some t3) none none) fun t60 =>
  opt2 (call 40 [t60, (.lit (.string ⟨⟨[91, 93, 40, 41, 44]⟩⟩))] h) fun t61 h1 =>
  S24_14 call t0 t3 t4 t61 h1

theorem TS24_15 (call : CallF) : (rk Try.prog call 107 (Code.snd (Code.snd (Code.snd (Code.snd (Code.bd (Code.snd c24))))))).1 (finK Try.prog Try.f24.results.toList) [] (finK Try.prog Try.f24.results.toList) (fun l s h => S24_0g call rounds l (s.rd 0) (s.rd 3) (s.rd 4) h) = fun s h => S24_15 call (s.rd 0) (s.rd 3) (s.rd 4) h := Eq.trans (seq_t (by kernel_rfl) (TS24_10 call) (seq_t (by kernel_rfl) (TS24_14 call) rfl)) (by funext s h; kernel_rfl)

noncomputable def S24_16 (call : CallF) (t0 : AV) (t3 : AV) (t4 : AV) (t35 : AV) (h : Heap) : Res :=
  test t35
  (opt (fastCut t0 (some t3) none none) fun t39 =>
  opt2 (call 22 [t39] h) fun t40 h1 =>
  opt (extractX t40 0) fun t41 =>
  opt (extractX t40 1) fun t42 =>
  opt (fastBin .eql t42 (.lit (.int .i64 0))) fun t44 =>
  test t44
  (some ((.lit (.int .i64 0)), h1))
  (opt (fastBin .add t3 t42) fun t48 =>
  opt (fastCut t0 (some t48) none none) fun t49 =>
  opt2 (call 24 [t49] h1) fun t50 h2 =>
  opt (fastBin .eql t50 (.lit (.int .i64 0))) fun t52 =>
  test t52
  (some ((.lit (.int .i64 0)), h2))
  (opt (fastBin .add t42 t50) fun t56 =>
  opt (fastBin .add t3 t56) fun t57 =>
  S24_0g call rounds 0 t0 t57 t4 h2)))
  (S24_15 call t0 t3 t4 h)

theorem TS24_16 (call : CallF) : (rk Try.prog call 107 (Code.snd (Code.fst (Code.snd (Code.snd (Code.snd (Code.bd (Code.snd c24)))))))).1 (fun s h => S24_15 call (s.rd 0) (s.rd 3) (s.rd 4) h) [] (finK Try.prog Try.f24.results.toList) (fun l s h => S24_0g call rounds l (s.rd 0) (s.rd 3) (s.rd 4) h) = fun s h => S24_16 call (s.rd 0) (s.rd 3) (s.rd 4) (s.rd 35) h := by funext s h; kernel_rfl

noncomputable def S24_17 (call : CallF) (t0 : AV) (t3 : AV) (t4 : AV) (h : Heap) : Res :=
  opt (lenStr t0) fun t28 =>
  opt (fastBin .lss t3 t28) fun t29 =>
  test t29
  (opt (fastIndex t0 t3) fun t33 =>
  opt (fastBin .eql t33 (.lit (.int .u8 40))) fun t34 =>
  S24_16 call t0 t3 t4 t34 h)
  (S24_16 call t0 t3 t4 (.lit (.bool false)) h)

theorem TS24_17 (call : CallF) : (rk Try.prog call 107 (Code.snd (Code.snd (Code.snd (Code.bd (Code.snd c24)))))).1 (finK Try.prog Try.f24.results.toList) [] (finK Try.prog Try.f24.results.toList) (fun l s h => S24_0g call rounds l (s.rd 0) (s.rd 3) (s.rd 4) h) = fun s h => S24_17 call (s.rd 0) (s.rd 3) (s.rd 4) h := Eq.trans (seq_t (by kernel_rfl) (TS24_15 call) (seq_t (by kernel_rfl) (TS24_16 call) rfl)) (by funext s h; kernel_rfl)

noncomputable def S24_18 (call : CallF) (t0 : AV) (t3 : AV) (h : Heap) : Res :=
  S24_17 call t0 t3 t3 h

theorem TS24_18 (call : CallF) : (rk Try.prog call 107 (Code.snd (Code.snd (Code.bd (Code.snd c24))))).1 (finK Try.prog Try.f24.results.toList) [] (finK Try.prog Try.f24.results.toList) (fun l s h => S24_0g call rounds l (s.rd 0) (s.rd 3) (s.rd 4) h) = fun s h => S24_18 call (s.rd 0) (s.rd 3) h := Eq.trans (seq_t (by kernel_rfl) (TS24_17 call) rfl) (by funext s h; kernel_rfl)

noncomputable def S24_20 (call : CallF) (r19 : AV → AV → Heap → Res) (t0 : AV) (t3 : AV) (h : Heap) : Res :=
  opt (fastBin .add t3 (.lit (.int .i64 1))) fun t24 =>
  r19 t0 t24 h

theorem TS24_20 (call : CallF) (r19 : AV → AV → Heap → Res) : (rk Try.prog call 107 (Code.snd (Code.bd (Code.bd (Code.fst (Code.snd (Code.bd (Code.snd c24)))))))).1 (fun s h => r19 (s.rd 0) (s.rd 3) h) [(0, (fun s h => S24_18 call (s.rd 0) (s.rd 3) h))] (finK Try.prog Try.f24.results.toList) (fun l s h => S24_0g call rounds l (s.rd 0) (s.rd 3) (s.rd 4) h) = fun s h => S24_20 call r19 (s.rd 0) (s.rd 3) h := by funext s h; kernel_rfl

noncomputable def S24_21b (call : CallF) (r19 : AV → AV → Heap → Res) (t0 : AV) (t3 : AV) (h : Heap) : Res :=
  opt (lenStr t0) fun t15 =>
  opt (fastBin .lss t3 t15) fun t16 =>
  test t16
  (opt (fastIndex t0 t3) fun t20 =>
  opt (fastBin .eql t20 (.lit (.int .u8 91))) fun t21 =>
  test t21
  (S24_20 call r19 t0 t3 h)
  (S24_18 call t0 t3 h))
  (S24_18 call t0 t3 h)

theorem TS24_21b (call : CallF) (r19 : AV → AV → Heap → Res) : (rk Try.prog call 107 (Code.bd (Code.bd (Code.fst (Code.snd (Code.bd (Code.snd c24))))))).1 (fun s h => r19 (s.rd 0) (s.rd 3) h) [(0, (fun s h => S24_18 call (s.rd 0) (s.rd 3) h))] (finK Try.prog Try.f24.results.toList) (fun l s h => S24_0g call rounds l (s.rd 0) (s.rd 3) (s.rd 4) h) = fun s h => S24_21b call r19 (s.rd 0) (s.rd 3) h := Eq.trans (seq_t (by kernel_rfl) (TS24_20 call r19) rfl) (by funext s h; kernel_rfl)

noncomputable def S24_19l (call : CallF) : Nat → AV → AV → Heap → Res
  | 0 => fun _ _ _ => none
  | k + 1 => S24_21b call (S24_19l call k)

theorem TS24_19l (call : CallF) : (rk Try.prog call 107 (Code.bd (Code.fst (Code.snd (Code.bd (Code.snd c24)))))).1 (fun s h => S24_18 call (s.rd 0) (s.rd 3) h) [(0, (fun s h => S24_18 call (s.rd 0) (s.rd 3) h))] (finK Try.prog Try.f24.results.toList) (fun l s h => S24_0g call rounds l (s.rd 0) (s.rd 3) (s.rd 4) h) = fun s h => S24_19l call rounds (s.rd 0) (s.rd 3) h :=
  loop_t (by kernel_rfl) (loop_ind (A := fun m => fun s h => S24_19l call m (s.rd 0) (s.rd 3) h) rfl (fun m => TS24_21b call (S24_19l call m)) rounds)

noncomputable def S24_22 (call : CallF) (t0 : AV) (t3 : AV) (h : Heap) : Res :=
  S24_19l call rounds t0 t3 h

theorem TS24_22 (call : CallF) : (rk Try.prog call 107 (Code.snd (Code.bd (Code.snd c24)))).1 (finK Try.prog Try.f24.results.toList) [] (finK Try.prog Try.f24.results.toList) (fun l s h => S24_0g call rounds l (s.rd 0) (s.rd 3) (s.rd 4) h) = fun s h => S24_22 call (s.rd 0) (s.rd 3) h := Eq.trans (seq_t (by kernel_rfl) (TS24_18 call) (block_t (id := 0) (by kernel_rfl) (TS24_19l call))) (by funext s h; kernel_rfl)

noncomputable def S24_23 (call : CallF) (t0 : AV) (h : Heap) : Res :=
  S24_22 call t0 (.lit (.int .i64 0)) h

theorem TS24_23 (call : CallF) : (rk Try.prog call 107 (Code.snd c24)).1 (finK Try.prog Try.f24.results.toList) [] (finK Try.prog Try.f24.results.toList) (fun _ => stuckK) = fun s h => S24_23 call (s.rd 0) h := Eq.trans (scope_t (by kernel_rfl) (TS24_0g call) (seq_t (by kernel_rfl) (TS24_22 call) rfl)) (by funext s h; kernel_rfl)

/-- hawser/types.first -/
noncomputable def F24 (call : CallF) (a0 : AV) (h : Heap) : Res :=
  S24_23 call a0 h

theorem TF24 (call : CallF) (a0 : AV) (h : Heap) : (rk Try.prog call 107 c24).1 (finK Try.prog Try.f24.results.toList) [] (finK Try.prog Try.f24.results.toList) (fun _ => stuckK) (argsTr gl 0 [a0]) h = F24 call a0 h := Eq.trans (congrFun (congrFun (seq_t (by kernel_rfl) (TS24_23 call) rfl) _) _) (by kernel_rfl)

noncomputable def N24 : FnF
  | call, [a0], h => F24 call a0 h
  | _, _, _ => none

theorem N24_ok : FnOk Try.prog gl 24 N24 := FnOk.of namesOk mixedOrders lowOk Try.func24 (by kernel_rfl) fun call args h r hF => by
  unfold N24 at hF
  split at hF
  · rw [← hF, ← TF24]; exact bodyK_at (by kernel_rfl) (by kernel_rfl) rfl rfl
  · cases hF

noncomputable def c33 : Code := codeOf Try.f33

/-- hawser/types.plain -/
noncomputable def F33 (call : CallF) (a0 : AV) (h : Heap) : Res :=
  opt (fastBin .eql a0 (.lit (.string ⟨⟨[110, 117, 109]⟩⟩))) fun t4 =>
  test t4
  (some ((.lit (.bool true)), h))
  (opt (fastBin .eql a0 (.lit (.string ⟨⟨[98, 121, 116, 101, 115]⟩⟩))) fun t7 =>
  some (t7, h))

theorem TF33 (call : CallF) (a0 : AV) (h : Heap) : (rk Try.prog call 9 c33).1 (finK Try.prog Try.f33.results.toList) [] (finK Try.prog Try.f33.results.toList) (fun _ => stuckK) (argsTr gl 0 [a0]) h = F33 call a0 h := by kernel_rfl

noncomputable def N33 : FnF
  | call, [a0], h => F33 call a0 h
  | _, _, _ => none

theorem N33_ok : FnOk Try.prog gl 33 N33 := FnOk.of namesOk mixedOrders lowOk Try.func33 (by kernel_rfl) fun call args h r hF => by
  unfold N33 at hF
  split at hF
  · rw [← hF, ← TF33]; exact bodyK_at (by kernel_rfl) (by kernel_rfl) rfl rfl
  · cases hF

noncomputable def c39 : Code := codeOf Try.f39

/-- strings.HasPrefix -/
noncomputable def F39 (call : CallF) (a0 : AV) (a1 : AV) (h : Heap) : Res :=
  opt2 (call 52 [a0, a1] h) fun t7 h1 =>
  some (t7, h1)

theorem TF39 (call : CallF) (a0 : AV) (a1 : AV) (h : Heap) : (rk Try.prog call 8 c39).1 (finK Try.prog Try.f39.results.toList) [] (finK Try.prog Try.f39.results.toList) (fun _ => stuckK) (argsTr gl 0 [a0, a1]) h = F39 call a0 a1 h := by kernel_rfl

noncomputable def N39 : FnF
  | call, [a0, a1], h => F39 call a0 a1 h
  | _, _, _ => none

theorem N39_ok : FnOk Try.prog gl 39 N39 := FnOk.of namesOk mixedOrders lowOk Try.func39 (by kernel_rfl) fun call args h r hF => by
  unfold N39 at hF
  split at hF
  · rw [← hF, ← TF39]; exact bodyK_at (by kernel_rfl) (by kernel_rfl) rfl rfl
  · cases hF

noncomputable def c52 : Code := codeOf Try.f52

/-- internal/stringslite.HasPrefix -/
noncomputable def F52 (call : CallF) (a0 : AV) (a1 : AV) (h : Heap) : Res :=
  opt (lenStr a0) fun t6 =>
  opt (lenStr a1) fun t8 =>
  opt (fastBin .geq t6 t8) fun t9 =>
  test t9
  (opt (lenStr a1) fun t13 =>
  opt (fastCut a0 none (some t13) none) fun t14 =>
  opt (fastBin .eql t14 a1) fun t16 =>
  some (t16, h))
  (some ((.lit (.bool false)), h))

theorem TF52 (call : CallF) (a0 : AV) (a1 : AV) (h : Heap) : (rk Try.prog call 18 c52).1 (finK Try.prog Try.f52.results.toList) [] (finK Try.prog Try.f52.results.toList) (fun _ => stuckK) (argsTr gl 0 [a0, a1]) h = F52 call a0 a1 h := by kernel_rfl

noncomputable def N52 : FnF
  | call, [a0, a1], h => F52 call a0 a1 h
  | _, _, _ => none

theorem N52_ok : FnOk Try.prog gl 52 N52 := FnOk.of namesOk mixedOrders lowOk Try.func52 (by kernel_rfl) fun call args h r hF => by
  unfold N52 at hF
  split at hF
  · rw [← hF, ← TF52]; exact bodyK_at (by kernel_rfl) (by kernel_rfl) rfl rfl
  · cases hF

end Go.Proofs.Ytpgmeigheilanaa
