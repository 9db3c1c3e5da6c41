import Derived.Test.YthammkbenflchaaDoorProg
import Derived.Test.YthammkbenflchaaDoorAmX
import Derived.KernelRfl
namespace Go.Proofs.YthammkbenflchaaDoor
open Go.Am
set_option maxRecDepth 100000
set_option linter.unusedSimpArgs false
set_option linter.unusedVariables false
def gl : Tr := Tr.set 64 .leaf (4294967297 + 1) (tabAV .u64 Lib.pow10Tab)
theorem gl_get : gl.get (4294967297 + 1) = tabAV .u64 Lib.pow10Tab := by
  unfold gl
  rw [Tr.set_get 64 .leaf _ _ _ (by omega), if_pos rfl]
theorem lowOk : ∀ i, i ≤ 4294967296 → gl.get i = .lit undef := low_one (b := 1) (v := tabAV .u64 Lib.pow10Tab) (by omega)
theorem names : (Tryd.prog.funcs.toList.all fun fn => !(fn.body.isSome && (fn.name == "runtime.NumGoroutine"))) = true := by kernel_rfl
theorem namesOk : NamesOk Tryd.prog := by
  intro f fn h hb
  have hm : fn ∈ Tryd.prog.funcs.toList := Array.mem_toList_iff.2 (Array.mem_of_getElem? h)
  have := List.all_eq_true.1 names fn hm
  simp only [hb, Bool.true_and, Bool.not_eq_true'] at this
  exact this
theorem mixedOrders : Tryd.prog.follows .mixedOrders = true := by kernel_rfl
noncomputable def c3 : Code := codeOf Tryd.f3

/-- hawser/hawserlaw2.NumReads -/
noncomputable def F3 (call : CallF) (a0 : AV) (h : Heap) : Res :=
  opt2 (call 11 [a0] h) fun t9 h1 =>
  opt (extractX t9 0) fun t10 =>
  opt (extractX t9 1) fun t11 =>
  opt2 (call 12 [a0] h1) fun t14 h2 =>
  opt (extractX t14 0) fun t15 =>
  opt (extractX t14 1) fun t16 =>
  opt (binX Tryd.prog .none .eql 22 t10 t15) fun t19 =>
  test t19
  (opt (binX Tryd.prog .none .eql 4 t11 t16) fun t23 =>
  test t23
  (opt2 (call 13 [] h2) fun t26 h3 =>
  some (t26, h3))
  (some ((.lit (.bool false)), h2)))
  (some ((.lit (.bool false)), h2))

theorem TF3 (call : CallF) (a0 : AV) (h : Heap) : (rk Tryd.prog call 28 c3).1 (finK Tryd.prog Tryd.f3.results.toList) [] (finK Tryd.prog Tryd.f3.results.toList) (fun _ => stuckK) (argsTr gl 0 [a0]) h = F3 call a0 h := by kernel_rfl

noncomputable def N3 : FnF
  | call, [a0], h => F3 call a0 h
  | _, _, _ => none

theorem N3_ok : FnOk Tryd.prog gl 3 N3 := FnOk.of namesOk mixedOrders lowOk Tryd.func3 (by kernel_rfl) fun call args h r hF => by
  unfold N3 at hF
  split at hF
  · rw [← hF, ← TF3]; exact bodyK_at (by kernel_rfl) (by kernel_rfl) rfl rfl
  · cases hF

noncomputable def c4 : Code := codeOf Tryd.f4

/-- hawser/hawserlaw2.NumBack -/
noncomputable def F4 (call : CallF) (a0 : AV) (a1 : AV) (h : Heap) : Res :=
  opt2 (call 14 [a0, a1] h) fun t10 h1 =>
  opt2 (call 15 [t10] h1) fun t13 h2 =>
  opt2 (call 11 [t13] h2) fun t14 h3 =>
  opt (extractX t14 0) fun t15 =>
  opt (extractX t14 1) fun t16 =>
  opt2 (call 16 [t10] h3) fun t19 h4 =>
  opt (binX Tryd.prog .none .eql 4 t16 t19) fun t20 =>
  test t20
  (opt (notX t16) fun t23 =>
  test t23
  (opt2 (call 13 [] h4) fun t31 h5 =>
  some (t31, h5))
  (opt (binX Tryd.prog .none .eql 22 t10 t15) fun t27 =>
  test t27
  (opt2 (call 13 [] h4) fun t31_1 h6 =>
  some (t31_1, h6))
  (some ((.lit (.bool false)), h4))))
  (some ((.lit (.bool false)), h4))

theorem TF4 (call : CallF) (a0 : AV) (a1 : AV) (h : Heap) : (rk Tryd.prog call 33 c4).1 (finK Tryd.prog Tryd.f4.results.toList) [] (finK Tryd.prog Tryd.f4.results.toList) (fun _ => stuckK) (argsTr gl 0 [a0, a1]) h = F4 call a0 a1 h := by kernel_rfl

noncomputable def N4 : FnF
  | call, [a0, a1], h => F4 call a0 a1 h
  | _, _, _ => none

theorem N4_ok : FnOk Tryd.prog gl 4 N4 := FnOk.of namesOk mixedOrders lowOk Tryd.func4 (by kernel_rfl) fun call args h r hF => by
  unfold N4 at hF
  split at hF
  · rw [← hF, ← TF4]; exact bodyK_at (by kernel_rfl) (by kernel_rfl) rfl rfl
  · cases hF

noncomputable def c5 : Code := codeOf Tryd.f5

noncomputable def S5_0 (call : CallF) (t7 : AV) (t8 : AV) (t9 : AV) (h : Heap) : Res :=
  opt (fastBin .eql t9 (.lit (.int .i64 0))) fun t47 =>
  test t47
  (opt (litUn Tryd.prog .neg t7) fun t52 =>
  opt2 (call 19 [t7, t52] h) fun t53 h1 =>
  opt (binX Tryd.prog .none .eql 22 t8 t53) fun t54 =>
  test t54
  (opt2 (call 13 [] h1) fun t57 h2 =>
  some (t57, h2))
  (some ((.lit (.bool false)), h1)))
  (some ((.lit (.bool false)), h))

theorem TS5_0 (call : CallF) : (rk Tryd.prog call 59 (Code.snd (Code.snd (Code.snd (Code.snd (Code.snd (Code.snd c5))))))).1 (finK Tryd.prog Tryd.f5.results.toList) [] (finK Tryd.prog Tryd.f5.results.toList) (fun _ => stuckK) = fun s h => S5_0 call (s.rd 7) (s.rd 8) (s.rd 9) h := by funext s h; kernel_rfl

noncomputable def S5_1 (call : CallF) (t7 : AV) (t8 : AV) (t9 : AV) (t36 : AV) (h : Heap) : Res :=
  test t36
  (opt (fastBin .eql t9 (.lit (.int .i64 44))) fun t38 =>
  test t38
  (opt (binX Tryd.prog .none .eql 22 t8 (.lit (.complex .f64 0 0))) fun t41 =>
  test t41
  (opt2 (call 13 [] h) fun t44 h1 =>
  some (t44, h1))
  (some ((.lit (.bool false)), h)))
  (some ((.lit (.bool false)), h)))
  (S5_0 call t7 t8 t9 h)

theorem TS5_1 (call : CallF) : (rk Tryd.prog call 59 (Code.snd (Code.fst (Code.snd (Code.snd (Code.snd (Code.snd (Code.snd c5)))))))).1 (fun s h => S5_0 call (s.rd 7) (s.rd 8) (s.rd 9) h) [] (finK Tryd.prog Tryd.f5.results.toList) (fun _ => stuckK) = fun s h => S5_1 call (s.rd 7) (s.rd 8) (s.rd 9) (s.rd 36) h := by funext s h; kernel_rfl

noncomputable def S5_2 (call : CallF) (t7 : AV) (t8 : AV) (t9 : AV) (h : Heap) : Res :=
  opt (fastBin .gtr t7 (.lit (.int .i64 1048576))) fun t32 =>
  test t32
  (S5_1 call t7 t8 t9 (.lit (.bool true)) h)
  (opt (fastBin .lss t7 (.lit (.int .i64 (-1048576)))) fun t35 =>
  S5_1 call t7 t8 t9 t35 h)

theorem TS5_2 (call : CallF) : (rk Tryd.prog call 59 (Code.snd (Code.snd (Code.snd (Code.snd (Code.snd c5)))))).1 (finK Tryd.prog Tryd.f5.results.toList) [] (finK Tryd.prog Tryd.f5.results.toList) (fun _ => stuckK) = fun s h => S5_2 call (s.rd 7) (s.rd 8) (s.rd 9) h := Eq.trans (seq_t (by kernel_rfl) (TS5_0 call) (seq_t (by kernel_rfl) (TS5_1 call) rfl)) (by funext s h; kernel_rfl)

noncomputable def S5_3 (call : CallF) (t5 : AV) (t6 : AV) (t7 : AV) (h : Heap) : Res :=
  opt (litUn Tryd.prog .neg t5) fun t22 =>
  opt2 (call 19 [t5, t22] h) fun t23 h1 =>
  opt (litUn Tryd.prog .neg t6) fun t26 =>
  opt2 (call 19 [t6, t26] h1) fun t27 h2 =>
  opt2 (call 18 [(.lit (.string ⟨⟨[97, 100, 100]⟩⟩)), t23, t27] h2) fun t28 h3 =>
  opt (extractX t28 0) fun t29 =>
  opt (extractX t28 1) fun t30 =>
  S5_2 call t7 t29 t30 h3

theorem TS5_3 (call : CallF) : (rk Tryd.prog call 59 (Code.snd (Code.snd (Code.snd (Code.snd c5))))).1 (finK Tryd.prog Tryd.f5.results.toList) [] (finK Tryd.prog Tryd.f5.results.toList) (fun _ => stuckK) = fun s h => S5_3 call (s.rd 5) (s.rd 6) (s.rd 7) h := Eq.trans (seq_t (by kernel_rfl) (TS5_2 call) rfl) (by funext s h; kernel_rfl)

noncomputable def S5_4 (call : CallF) (t5 : AV) (t6 : AV) (h : Heap) : Res :=
  opt (fastBin .add t5 t6) fun t18 =>
  S5_3 call t5 t6 t18 h

theorem TS5_4 (call : CallF) : (rk Tryd.prog call 59 (Code.snd (Code.snd (Code.snd c5)))).1 (finK Tryd.prog Tryd.f5.results.toList) [] (finK Tryd.prog Tryd.f5.results.toList) (fun _ => stuckK) = fun s h => S5_4 call (s.rd 5) (s.rd 6) h := Eq.trans (seq_t (by kernel_rfl) (TS5_3 call) rfl) (by funext s h; kernel_rfl)

noncomputable def S5_5 (call : CallF) (t1 : AV) (t5 : AV) (h : Heap) : Res :=
  opt2 (call 17 [t1, (.lit (.int .i64 0)), (.lit (.int .i64 2097152))] h) fun t14 h1 =>
  opt (fastBin .sub t14 (.lit (.int .i64 1048576))) fun t15 =>
  S5_4 call t5 t15 h1

theorem TS5_5 (call : CallF) : (rk Tryd.prog call 59 (Code.snd (Code.snd c5))).1 (finK Tryd.prog Tryd.f5.results.toList) [] (finK Tryd.prog Tryd.f5.results.toList) (fun _ => stuckK) = fun s h => S5_5 call (s.rd 1) (s.rd 5) h := Eq.trans (seq_t (by kernel_rfl) (TS5_4 call) rfl) (by funext s h; kernel_rfl)

noncomputable def S5_6 (call : CallF) (t0 : AV) (t1 : AV) (h : Heap) : Res :=
  opt2 (call 17 [t0, (.lit (.int .i64 0)), (.lit (.int .i64 2097152))] h) fun t11 h1 =>
  opt (fastBin .sub t11 (.lit (.int .i64 1048576))) fun t12 =>
  S5_5 call t1 t12 h1

theorem TS5_6 (call : CallF) : (rk Tryd.prog call 59 (Code.snd c5)).1 (finK Tryd.prog Tryd.f5.results.toList) [] (finK Tryd.prog Tryd.f5.results.toList) (fun _ => stuckK) = fun s h => S5_6 call (s.rd 0) (s.rd 1) h := Eq.trans (seq_t (by kernel_rfl) (TS5_5 call) rfl) (by funext s h; kernel_rfl)

/-- hawser/hawserlaw2.NumEdges -/
noncomputable def F5 (call : CallF) (a0 : AV) (a1 : AV) (h : Heap) : Res :=
  S5_6 call a0 a1 h

theorem TF5 (call : CallF) (a0 : AV) (a1 : AV) (h : Heap) : (rk Tryd.prog call 59 c5).1 (finK Tryd.prog Tryd.f5.results.toList) [] (finK Tryd.prog Tryd.f5.results.toList) (fun _ => stuckK) (argsTr gl 0 [a0, a1]) h = F5 call a0 a1 h := Eq.trans (congrFun (congrFun (seq_t (by kernel_rfl) (TS5_6 call) rfl) _) _) (by kernel_rfl)

noncomputable def N5 : FnF
  | call, [a0, a1], h => F5 call a0 a1 h
  | _, _, _ => none

theorem N5_ok : FnOk Tryd.prog gl 5 N5 := FnOk.of namesOk mixedOrders lowOk Tryd.func5 (by kernel_rfl) fun call args h r hF => by
  unfold N5 at hF
  split at hF
  · rw [← hF, ← TF5]; exact bodyK_at (by kernel_rfl) (by kernel_rfl) rfl rfl
  · cases hF

noncomputable def c6 : Code := codeOf Tryd.f6

noncomputable def S6_0 (call : CallF) (t13 : AV) (t14 : AV) (t15 : AV) (h : Heap) : Res :=
  test t14
  (opt (binX Tryd.prog .none .eql 22 t13 t15) fun t71 =>
  test t71
  (opt2 (call 13 [] h) fun t74 h1 =>
  some (t74, h1))
  (some ((.lit (.bool false)), h)))
  (some ((.lit (.bool false)), h))

theorem TS6_0 (call : CallF) : (rk Tryd.prog call 76 (Code.snd (Code.snd (Code.snd (Code.snd (Code.snd (Code.snd (Code.snd (Code.snd (Code.snd (Code.snd (Code.snd (Code.snd (Code.snd (Code.snd c6))))))))))))))).1 (finK Tryd.prog Tryd.f6.results.toList) [] (finK Tryd.prog Tryd.f6.results.toList) (fun _ => stuckK) = fun s h => S6_0 call (s.rd 13) (s.rd 14) (s.rd 15) h := by funext s h; kernel_rfl

noncomputable def S6_1 (call : CallF) (t0 : AV) (t2 : AV) (t13 : AV) (t14 : AV) (t15 : AV) (h : Heap) : Res :=
  test t2
  (opt2 (call 19 [(.lit (.int .i64 0)), t0] h) fun t66 h1 =>
  S6_0 call t13 t14 t66 h1)
  (S6_0 call t13 t14 t15 h)

theorem TS6_1 (call : CallF) : (rk Tryd.prog call 76 (Code.snd (Code.snd (Code.snd (Code.snd (Code.snd (Code.snd (Code.snd (Code.snd (Code.snd (Code.snd (Code.snd (Code.snd (Code.snd c6)))))))))))))).1 (finK Tryd.prog Tryd.f6.results.toList) [] (finK Tryd.prog Tryd.f6.results.toList) (fun _ => stuckK) = fun s h => S6_1 call (s.rd 0) (s.rd 2) (s.rd 13) (s.rd 14) (s.rd 15) h := Eq.trans (seq_t (by kernel_rfl) (TS6_0 call) rfl) (by funext s h; kernel_rfl)

noncomputable def S6_2 (call : CallF) (t0 : AV) (t2 : AV) (t13 : AV) (t14 : AV) (h : Heap) : Res :=
  opt2 (call 19 [t0, (.lit (.int .i64 0))] h) fun t63 h1 =>
  S6_1 call t0 t2 t13 t14 t63 h1

theorem TS6_2 (call : CallF) : (rk Tryd.prog call 76 (Code.snd (Code.snd (Code.snd (Code.snd (Code.snd (Code.snd (Code.snd (Code.snd (Code.snd (Code.snd (Code.snd (Code.snd c6))))))))))))).1 (finK Tryd.prog Tryd.f6.results.toList) [] (finK Tryd.prog Tryd.f6.results.toList) (fun _ => stuckK) = fun s h => S6_2 call (s.rd 0) (s.rd 2) (s.rd 13) (s.rd 14) h := Eq.trans (seq_t (by kernel_rfl) (TS6_1 call) rfl) (by funext s h; kernel_rfl)

noncomputable def S6_3 (call : CallF) (t0 : AV) (t2 : AV) (t3 : AV) (t13 : AV) (t14 : AV) (h : Heap) : Res :=
  test t3
  (opt (litUn Tryd.prog .neg t0) fun t61 =>
  S6_2 call t61 t2 t13 t14 h)
  (S6_2 call t0 t2 t13 t14 h)

theorem TS6_3 (call : CallF) : (rk Tryd.prog call 76 (Code.snd (Code.snd (Code.snd (Code.snd (Code.snd (Code.snd (Code.snd (Code.snd (Code.snd (Code.snd (Code.snd c6)))))))))))).1 (finK Tryd.prog Tryd.f6.results.toList) [] (finK Tryd.prog Tryd.f6.results.toList) (fun _ => stuckK) = fun s h => S6_3 call (s.rd 0) (s.rd 2) (s.rd 3) (s.rd 13) (s.rd 14) h := Eq.trans (seq_t (by kernel_rfl) (TS6_2 call) rfl) (by funext s h; kernel_rfl)

noncomputable def S6_4 (call : CallF) (t0 : AV) (t2 : AV) (t3 : AV) (t13 : AV) (t14 : AV) (h : Heap) : Res :=
  opt (fastBin .gtr t0 (.lit (.int .i64 1048576))) fun t49 =>
  test t49
  (opt (notX t14) fun t51 =>
  test t51
  (opt (binX Tryd.prog .none .eql 22 t13 (.lit (.complex .f64 0 0))) fun t54 =>
  test t54
  (opt2 (call 13 [] h) fun t57 h1 =>
  some (t57, h1))
  (some ((.lit (.bool false)), h)))
  (some ((.lit (.bool false)), h)))
  (S6_3 call t0 t2 t3 t13 t14 h)

theorem TS6_4 (call : CallF) : (rk Tryd.prog call 76 (Code.snd (Code.snd (Code.snd (Code.snd (Code.snd (Code.snd (Code.snd (Code.snd (Code.snd (Code.snd c6))))))))))).1 (finK Tryd.prog Tryd.f6.results.toList) [] (finK Tryd.prog Tryd.f6.results.toList) (fun _ => stuckK) = fun s h => S6_4 call (s.rd 0) (s.rd 2) (s.rd 3) (s.rd 13) (s.rd 14) h := Eq.trans (seq_t (by kernel_rfl) (TS6_3 call) rfl) (by funext s h; kernel_rfl)

noncomputable def S6_5 (call : CallF) (t0 : AV) (t2 : AV) (t3 : AV) (t12 : AV) (h : Heap) : Res :=
  opt2 (call 11 [t12] h) fun t45 h1 =>
  opt (extractX t45 0) fun t46 =>
  opt (extractX t45 1) fun t47 =>
  S6_4 call t0 t2 t3 t46 t47 h1

theorem TS6_5 (call : CallF) : (rk Tryd.prog call 76 (Code.snd (Code.snd (Code.snd (Code.snd (Code.snd (Code.snd (Code.snd (Code.snd (Code.snd c6)))))))))).1 (finK Tryd.prog Tryd.f6.results.toList) [] (finK Tryd.prog Tryd.f6.results.toList) (fun _ => stuckK) = fun s h => S6_5 call (s.rd 0) (s.rd 2) (s.rd 3) (s.rd 12) h := Eq.trans (seq_t (by kernel_rfl) (TS6_4 call) rfl) (by funext s h; kernel_rfl)

noncomputable def S6_6 (call : CallF) (t0 : AV) (t2 : AV) (t3 : AV) (t12 : AV) (h : Heap) : Res :=
  test t3
  (opt (fastBin .add (.lit (.string ⟨⟨[45]⟩⟩)) t12) fun t42 =>
  S6_5 call t0 t2 t3 t42 h)
  (S6_5 call t0 t2 t3 t12 h)

theorem TS6_6 (call : CallF) : (rk Tryd.prog call 76 (Code.snd (Code.snd (Code.snd (Code.snd (Code.snd (Code.snd (Code.snd (Code.snd c6))))))))).1 (finK Tryd.prog Tryd.f6.results.toList) [] (finK Tryd.prog Tryd.f6.results.toList) (fun _ => stuckK) = fun s h => S6_6 call (s.rd 0) (s.rd 2) (s.rd 3) (s.rd 12) h := Eq.trans (seq_t (by kernel_rfl) (TS6_5 call) rfl) (by funext s h; kernel_rfl)

noncomputable def S6_7 (call : CallF) (t0 : AV) (t2 : AV) (t3 : AV) (t12 : AV) (h : Heap) : Res :=
  test t2
  (opt (fastBin .add t12 (.lit (.string ⟨⟨[105]⟩⟩))) fun t39 =>
  S6_6 call t0 t2 t3 t39 h)
  (S6_6 call t0 t2 t3 t12 h)

theorem TS6_7 (call : CallF) : (rk Tryd.prog call 76 (Code.snd (Code.snd (Code.snd (Code.snd (Code.snd (Code.snd (Code.snd c6)))))))).1 (finK Tryd.prog Tryd.f6.results.toList) [] (finK Tryd.prog Tryd.f6.results.toList) (fun _ => stuckK) = fun s h => S6_7 call (s.rd 0) (s.rd 2) (s.rd 3) (s.rd 12) h := Eq.trans (seq_t (by kernel_rfl) (TS6_6 call) rfl) (by funext s h; kernel_rfl)

noncomputable def S6_8 (call : CallF) (t0 : AV) (t2 : AV) (t3 : AV) (t9 : AV) (t10 : AV) (h : Heap) : Res :=
  opt (fastBin .add t10 t9) fun t36 =>
  S6_7 call t0 t2 t3 t36 h

theorem TS6_8 (call : CallF) : (rk Tryd.prog call 76 (Code.snd (Code.snd (Code.snd (Code.snd (Code.snd (Code.snd c6))))))).1 (finK Tryd.prog Tryd.f6.results.toList) [] (finK Tryd.prog Tryd.f6.results.toList) (fun _ => stuckK) = fun s h => S6_8 call (s.rd 0) (s.rd 2) (s.rd 3) (s.rd 9) (s.rd 10) h := Eq.trans (seq_t (by kernel_rfl) (TS6_7 call) rfl) (by funext s h; kernel_rfl)

noncomputable def S6_10b (call : CallF) (r9 : AV → AV → AV → AV → AV → AV → Heap → Res) (t0 : AV) (t2 : AV) (t3 : AV) (t9 : AV) (t10 : AV) (t11 : AV) (h : Heap) : Res :=
  opt (fastBin .gtr t11 (.lit (.int .i64 0))) fun t29 =>
  test t29
  (opt (fastBin .add t10 (.lit (.string ⟨⟨[48]⟩⟩))) fun t33 =>
  opt (fastBin .sub t11 (.lit (.int .i64 1))) fun t31 =>
  r9 t0 t2 t3 t9 t33 t31 h)
  (S6_8 call t0 t2 t3 t9 t10 h)

theorem TS6_10b (call : CallF) (r9 : AV → AV → AV → AV → AV → AV → Heap → Res) : (rk Tryd.prog call 76 (Code.bd (Code.bd (Code.snd (Code.fst (Code.snd (Code.snd (Code.snd (Code.snd (Code.snd c6)))))))))).1 (fun s h => r9 (s.rd 0) (s.rd 2) (s.rd 3) (s.rd 9) (s.rd 10) (s.rd 11) h) [(0, (fun s h => S6_8 call (s.rd 0) (s.rd 2) (s.rd 3) (s.rd 9) (s.rd 10) h))] (finK Tryd.prog Tryd.f6.results.toList) (fun _ => stuckK) = fun s h => S6_10b call r9 (s.rd 0) (s.rd 2) (s.rd 3) (s.rd 9) (s.rd 10) (s.rd 11) h := by funext s h; kernel_rfl

noncomputable def S6_9l (call : CallF) : Nat → AV → AV → AV → AV → AV → AV → Heap → Res
  | 0 => fun _ _ _ _ _ _ _ => none
  | k + 1 => S6_10b call (S6_9l call k)

theorem TS6_9l (call : CallF) : (rk Tryd.prog call 76 (Code.bd (Code.snd (Code.fst (Code.snd (Code.snd (Code.snd (Code.snd (Code.snd c6))))))))).1 (fun s h => S6_8 call (s.rd 0) (s.rd 2) (s.rd 3) (s.rd 9) (s.rd 10) h) [(0, (fun s h => S6_8 call (s.rd 0) (s.rd 2) (s.rd 3) (s.rd 9) (s.rd 10) h))] (finK Tryd.prog Tryd.f6.results.toList) (fun _ => stuckK) = fun s h => S6_9l call rounds (s.rd 0) (s.rd 2) (s.rd 3) (s.rd 9) (s.rd 10) (s.rd 11) h :=
  loop_t (by kernel_rfl) (loop_ind (A := fun m => fun s h => S6_9l call m (s.rd 0) (s.rd 2) (s.rd 3) (s.rd 9) (s.rd 10) (s.rd 11) h) rfl (fun m => TS6_10b call (S6_9l call m)) rounds)

noncomputable def S6_11 (call : CallF) (t0 : AV) (t2 : AV) (t3 : AV) (t9 : AV) (t10 : AV) (t11 : AV) (h : Heap) : Res :=
  S6_9l call rounds t0 t2 t3 t9 t10 t11 h

theorem TS6_11 (call : CallF) : (rk Tryd.prog call 76 (Code.snd (Code.fst (Code.snd (Code.snd (Code.snd (Code.snd (Code.snd c6)))))))).1 (fun s h => S6_8 call (s.rd 0) (s.rd 2) (s.rd 3) (s.rd 9) (s.rd 10) h) [] (finK Tryd.prog Tryd.f6.results.toList) (fun _ => stuckK) = fun s h => S6_11 call (s.rd 0) (s.rd 2) (s.rd 3) (s.rd 9) (s.rd 10) (s.rd 11) h := Eq.trans (block_t (id := 0) (by kernel_rfl) (TS6_9l call)) (by funext s h; kernel_rfl)

noncomputable def S6_12 (call : CallF) (t0 : AV) (t1 : AV) (t2 : AV) (t3 : AV) (t9 : AV) (t10 : AV) (h : Heap) : Res :=
  opt2 (call 17 [t1, (.lit (.int .i64 0)), (.lit (.int .i64 30))] h) fun t27 h1 =>
  S6_11 call t0 t2 t3 t9 t10 t27 h1

theorem TS6_12 (call : CallF) : (rk Tryd.prog call 76 (Code.snd (Code.snd (Code.snd (Code.snd (Code.snd c6)))))).1 (finK Tryd.prog Tryd.f6.results.toList) [] (finK Tryd.prog Tryd.f6.results.toList) (fun _ => stuckK) = fun s h => S6_12 call (s.rd 0) (s.rd 1) (s.rd 2) (s.rd 3) (s.rd 9) (s.rd 10) h := Eq.trans (seq_t (by kernel_rfl) (TS6_8 call) (seq_t (by kernel_rfl) (TS6_11 call) rfl)) (by funext s h; kernel_rfl)

noncomputable def S6_13 (call : CallF) (t0 : AV) (t1 : AV) (t2 : AV) (t3 : AV) (t9 : AV) (h : Heap) : Res :=
  S6_12 call t0 t1 t2 t3 t9 (.lit (.string ⟨⟨[]⟩⟩)) h

theorem TS6_13 (call : CallF) : (rk Tryd.prog call 76 (Code.snd (Code.snd (Code.snd (Code.snd c6))))).1 (finK Tryd.prog Tryd.f6.results.toList) [] (finK Tryd.prog Tryd.f6.results.toList) (fun _ => stuckK) = fun s h => S6_13 call (s.rd 0) (s.rd 1) (s.rd 2) (s.rd 3) (s.rd 9) h := Eq.trans (seq_t (by kernel_rfl) (TS6_12 call) rfl) (by funext s h; kernel_rfl)

noncomputable def S6_14 (call : CallF) (t0 : AV) (t1 : AV) (t2 : AV) (t3 : AV) (t9 : AV) (h : Heap) : Res :=
  opt (fastBin .gtr t0 (.lit (.int .i64 1048576))) fun t22 =>
  test t22
  (opt2 (call 19 [(.lit (.int .i64 1048576)), (.lit (.int .i64 0))] h) fun t23 h1 =>
  opt2 (call 15 [t23] h1) fun t24 h2 =>
  opt (fastBin .add t24 (.lit (.string ⟨⟨[48]⟩⟩))) fun t25 =>
  S6_13 call t0 t1 t2 t3 t25 h2)
  (S6_13 call t0 t1 t2 t3 t9 h)

theorem TS6_14 (call : CallF) : (rk Tryd.prog call 76 (Code.snd (Code.snd (Code.snd c6)))).1 (finK Tryd.prog Tryd.f6.results.toList) [] (finK Tryd.prog Tryd.f6.results.toList) (fun _ => stuckK) = fun s h => S6_14 call (s.rd 0) (s.rd 1) (s.rd 2) (s.rd 3) (s.rd 9) h := Eq.trans (seq_t (by kernel_rfl) (TS6_13 call) rfl) (by funext s h; kernel_rfl)

noncomputable def S6_15 (call : CallF) (t0 : AV) (t1 : AV) (t2 : AV) (t3 : AV) (h : Heap) : Res :=
  opt2 (call 19 [t0, (.lit (.int .i64 0))] h) fun t19 h1 =>
  opt2 (call 15 [t19] h1) fun t20 h2 =>
  S6_14 call t0 t1 t2 t3 t20 h2

theorem TS6_15 (call : CallF) : (rk Tryd.prog call 76 (Code.snd (Code.snd c6))).1 (finK Tryd.prog Tryd.f6.results.toList) [] (finK Tryd.prog Tryd.f6.results.toList) (fun _ => stuckK) = fun s h => S6_15 call (s.rd 0) (s.rd 1) (s.rd 2) (s.rd 3) h := Eq.trans (seq_t (by kernel_rfl) (TS6_14 call) rfl) (by funext s h; kernel_rfl)

noncomputable def S6_16 (call : CallF) (t0 : AV) (t1 : AV) (t2 : AV) (t3 : AV) (h : Heap) : Res :=
  opt2 (call 17 [t0, (.lit (.int .i64 0)), (.lit (.int .i64 2097152))] h) fun t17 h1 =>
  S6_15 call t17 t1 t2 t3 h1

theorem TS6_16 (call : CallF) : (rk Tryd.prog call 76 (Code.snd c6)).1 (finK Tryd.prog Tryd.f6.results.toList) [] (finK Tryd.prog Tryd.f6.results.toList) (fun _ => stuckK) = fun s h => S6_16 call (s.rd 0) (s.rd 1) (s.rd 2) (s.rd 3) h := Eq.trans (seq_t (by kernel_rfl) (TS6_15 call) rfl) (by funext s h; kernel_rfl)

/-- hawser/hawserlaw2.NumParts -/
noncomputable def F6 (call : CallF) (a0 : AV) (a1 : AV) (a2 : AV) (a3 : AV) (h : Heap) : Res :=
  S6_16 call a0 a1 a2 a3 h

theorem TF6 (call : CallF) (a0 : AV) (a1 : AV) (a2 : AV) (a3 : AV) (h : Heap) : (rk Tryd.prog call 76 c6).1 (finK Tryd.prog Tryd.f6.results.toList) [] (finK Tryd.prog Tryd.f6.results.toList) (fun _ => stuckK) (argsTr gl 0 [a0, a1, a2, a3]) h = F6 call a0 a1 a2 a3 h := Eq.trans (congrFun (congrFun (seq_t (by kernel_rfl) (TS6_16 call) rfl) _) _) (by kernel_rfl)

noncomputable def N6 : FnF
  | call, [a0, a1, a2, a3], h => F6 call a0 a1 a2 a3 h
  | _, _, _ => none

theorem N6_ok : FnOk Tryd.prog gl 6 N6 := FnOk.of namesOk mixedOrders lowOk Tryd.func6 (by kernel_rfl) fun call args h r hF => by
  unfold N6 at hF
  split at hF
  · rw [← hF, ← TF6]; exact bodyK_at (by kernel_rfl) (by kernel_rfl) rfl rfl
  · cases hF

noncomputable def c7 : Code := codeOf Tryd.f7

noncomputable def S7_0 (call : CallF) (t13 : AV) (t14 : AV) (t15 : AV) (h : Heap) : Res :=
  opt2 (call 20 [t13, t14] h) fun t63 h1 =>
  opt (notX t63) fun t64 =>
  test t64
  (opt2 (call 13 [] h1) fun t77 h2 =>
  some (t77, h2))
  (opt2 (call 20 [t14, t15] h1) fun t68 h3 =>
  opt (notX t68) fun t69 =>
  test t69
  (opt2 (call 13 [] h3) fun t77_1 h4 =>
  some (t77_1, h4))
  (opt2 (call 20 [t13, t15] h3) fun t74 h5 =>
  test t74
  (opt2 (call 13 [] h5) fun t77_2 h6 =>
  some (t77_2, h6))
  (some ((.lit (.bool false)), h5))))

theorem TS7_0 (call : CallF) : (rk Tryd.prog call 79 (Code.snd (Code.snd (Code.snd (Code.snd (Code.snd c7)))))).1 (finK Tryd.prog Tryd.f7.results.toList) [] (finK Tryd.prog Tryd.f7.results.toList) (fun _ => stuckK) = fun s h => S7_0 call (s.rd 13) (s.rd 14) (s.rd 15) h := by funext s h; kernel_rfl

noncomputable def S7_1 (call : CallF) (t13 : AV) (t14 : AV) (t15 : AV) (h : Heap) : Res :=
  opt2 (call 20 [t13, t13] h) fun t33 h1 =>
  test t33
  (some ((.lit (.bool false)), h1))
  (opt2 (call 20 [t13, t14] h1) fun t37 h2 =>
  test t37
  (opt2 (call 20 [t14, t13] h2) fun t41 h3 =>
  test t41
  (some ((.lit (.bool false)), h3))
  (opt (binX Tryd.prog .none .neq 22 t13 t14) fun t47 =>
  test t47
  (opt2 (call 20 [t13, t14] h3) fun t51 h4 =>
  opt (notX t51) fun t52 =>
  test t52
  (opt2 (call 20 [t14, t13] h4) fun t57 h5 =>
  opt (notX t57) fun t58 =>
  test t58
  (some ((.lit (.bool false)), h5))
  (S7_0 call t13 t14 t15 h5))
  (S7_0 call t13 t14 t15 h4))
  (S7_0 call t13 t14 t15 h3)))
  (opt (binX Tryd.prog .none .neq 22 t13 t14) fun t47_1 =>
  test t47_1
  (opt2 (call 20 [t13, t14] h2) fun t51_1 h6 =>
  opt (notX t51_1) fun t52_1 =>
  test t52_1
  (opt2 (call 20 [t14, t13] h6) fun t57_1 h7 =>
  opt (notX t57_1) fun t58_1 =>
  test t58_1
  (some ((.lit (.bool false)), h7))
  (S7_0 call t13 t14 t15 h7))
  (S7_0 call t13 t14 t15 h6))
  (S7_0 call t13 t14 t15 h2)))

theorem TS7_1 (call : CallF) : (rk Tryd.prog call 79 (Code.snd (Code.snd (Code.snd (Code.snd c7))))).1 (finK Tryd.prog Tryd.f7.results.toList) [] (finK Tryd.prog Tryd.f7.results.toList) (fun _ => stuckK) = fun s h => S7_1 call (s.rd 13) (s.rd 14) (s.rd 15) h := Eq.trans (seq_t (by kernel_rfl) (TS7_0 call) rfl) (by funext s h; kernel_rfl)

noncomputable def S7_2 (call : CallF) (t4 : AV) (t5 : AV) (t13 : AV) (t14 : AV) (h : Heap) : Res :=
  opt (binX Tryd.prog .none .rem 3 t4 (.lit (.int .i64 4))) fun t27 =>
  opt (binX Tryd.prog .none .rem 3 t5 (.lit (.int .i64 4))) fun t29 =>
  opt2 (call 19 [t27, t29] h) fun t30 h1 =>
  S7_1 call t13 t14 t30 h1

theorem TS7_2 (call : CallF) : (rk Tryd.prog call 79 (Code.snd (Code.snd (Code.snd c7)))).1 (finK Tryd.prog Tryd.f7.results.toList) [] (finK Tryd.prog Tryd.f7.results.toList) (fun _ => stuckK) = fun s h => S7_2 call (s.rd 4) (s.rd 5) (s.rd 13) (s.rd 14) h := Eq.trans (seq_t (by kernel_rfl) (TS7_1 call) rfl) (by funext s h; kernel_rfl)

noncomputable def S7_3 (call : CallF) (t2 : AV) (t3 : AV) (t4 : AV) (t5 : AV) (t13 : AV) (h : Heap) : Res :=
  opt (binX Tryd.prog .none .rem 3 t2 (.lit (.int .i64 4))) fun t22 =>
  opt (binX Tryd.prog .none .rem 3 t3 (.lit (.int .i64 4))) fun t24 =>
  opt2 (call 19 [t22, t24] h) fun t25 h1 =>
  S7_2 call t4 t5 t13 t25 h1

theorem TS7_3 (call : CallF) : (rk Tryd.prog call 79 (Code.snd (Code.snd c7))).1 (finK Tryd.prog Tryd.f7.results.toList) [] (finK Tryd.prog Tryd.f7.results.toList) (fun _ => stuckK) = fun s h => S7_3 call (s.rd 2) (s.rd 3) (s.rd 4) (s.rd 5) (s.rd 13) h := Eq.trans (seq_t (by kernel_rfl) (TS7_2 call) rfl) (by funext s h; kernel_rfl)

noncomputable def S7_4 (call : CallF) (t0 : AV) (t1 : AV) (t2 : AV) (t3 : AV) (t4 : AV) (t5 : AV) (h : Heap) : Res :=
  opt (binX Tryd.prog .none .rem 3 t0 (.lit (.int .i64 4))) fun t17 =>
  opt (binX Tryd.prog .none .rem 3 t1 (.lit (.int .i64 4))) fun t19 =>
  opt2 (call 19 [t17, t19] h) fun t20 h1 =>
  S7_3 call t2 t3 t4 t5 t20 h1

theorem TS7_4 (call : CallF) : (rk Tryd.prog call 79 (Code.snd c7)).1 (finK Tryd.prog Tryd.f7.results.toList) [] (finK Tryd.prog Tryd.f7.results.toList) (fun _ => stuckK) = fun s h => S7_4 call (s.rd 0) (s.rd 1) (s.rd 2) (s.rd 3) (s.rd 4) (s.rd 5) h := Eq.trans (seq_t (by kernel_rfl) (TS7_3 call) rfl) (by funext s h; kernel_rfl)

/-- hawser/hawserlaw2.NumOrder -/
noncomputable def F7 (call : CallF) (a0 : AV) (a1 : AV) (a2 : AV) (a3 : AV) (a4 : AV) (a5 : AV) (h : Heap) : Res :=
  S7_4 call a0 a1 a2 a3 a4 a5 h

theorem TF7 (call : CallF) (a0 : AV) (a1 : AV) (a2 : AV) (a3 : AV) (a4 : AV) (a5 : AV) (h : Heap) : (rk Tryd.prog call 79 c7).1 (finK Tryd.prog Tryd.f7.results.toList) [] (finK Tryd.prog Tryd.f7.results.toList) (fun _ => stuckK) (argsTr gl 0 [a0, a1, a2, a3, a4, a5]) h = F7 call a0 a1 a2 a3 a4 a5 h := Eq.trans (congrFun (congrFun (seq_t (by kernel_rfl) (TS7_4 call) rfl) _) _) (by kernel_rfl)

noncomputable def N7 : FnF
  | call, [a0, a1, a2, a3, a4, a5], h => F7 call a0 a1 a2 a3 a4 a5 h
  | _, _, _ => none

theorem N7_ok : FnOk Tryd.prog gl 7 N7 := FnOk.of namesOk mixedOrders lowOk Tryd.func7 (by kernel_rfl) fun call args h r hF => by
  unfold N7 at hF
  split at hF
  · rw [← hF, ← TF7]; exact bodyK_at (by kernel_rfl) (by kernel_rfl) rfl rfl
  · cases hF

noncomputable def c9 : Code := codeOf Tryd.f9

noncomputable def S9_0 (call : CallF) (t9 : AV) (t10 : AV) (h : Heap) : Res :=
  opt2 (call 21 [(.lit (.string ⟨⟨[99, 111, 110, 106]⟩⟩)), t9] h) fun t116 h1 =>
  opt (extractX t116 0) fun t117 =>
  opt (extractX t116 1) fun t118 =>
  opt2 (call 21 [(.lit (.string ⟨⟨[99, 111, 110, 106]⟩⟩)), t117] h1) fun t121 h2 =>
  opt (extractX t121 0) fun t122 =>
  opt (extractX t121 1) fun t123 =>
  opt2 (call 21 [(.lit (.string ⟨⟨[114, 101]⟩⟩)), t9] h2) fun t126 h3 =>
  opt (extractX t126 0) fun t127 =>
  opt (extractX t126 1) fun t128 =>
  opt2 (call 21 [(.lit (.string ⟨⟨[105, 109]⟩⟩)), t9] h3) fun t131 h4 =>
  opt (extractX t131 0) fun t132 =>
  opt (extractX t131 1) fun t133 =>
  opt2 (call 19 [(.lit (.int .i64 0)), (.lit (.int .i64 1))] h4) fun t136 h5 =>
  opt2 (call 18 [(.lit (.string ⟨⟨[109, 117, 108]⟩⟩)), t132, t136] h5) fun t137 h6 =>
  opt (extractX t137 0) fun t138 =>
  opt (extractX t137 1) fun t139 =>
  opt2 (call 18 [(.lit (.string ⟨⟨[97, 100, 100]⟩⟩)), t127, t138] h6) fun t143 h7 =>
  opt (extractX t143 0) fun t144 =>
  opt (extractX t143 1) fun t145 =>
  opt2 (call 18 [(.lit (.string ⟨⟨[109, 117, 108]⟩⟩)), t9, t117] h7) fun t149 h8 =>
  opt (extractX t149 0) fun t150 =>
  opt (extractX t149 1) fun t151 =>
  opt2 (call 21 [(.lit (.string ⟨⟨[105, 109]⟩⟩)), t150] h8) fun t154 h9 =>
  opt (extractX t154 0) fun t155 =>
  opt (extractX t154 1) fun t156 =>
  opt (binX Tryd.prog .none .eql 22 t122 t9) fun t159 =>
  test t159
  (opt (binX Tryd.prog .none .eql 22 t144 t9) fun t163 =>
  test t163
  (opt (binX Tryd.prog .none .eql 22 t155 (.lit (.complex .f64 0 0))) fun t167 =>
  test t167
  (opt2 (call 20 [t9, t10] h9) fun t172 h10 =>
  opt2 (call 20 [t10, t9] h10) fun t175 h11 =>
  test t175
  (opt (binX Tryd.prog .none .neq 4 t172 (.lit (.bool true))) fun t181 =>
  test t181
  (opt2 (call 13 [] h11) fun t184 h12 =>
  some (t184, h12))
  (some ((.lit (.bool false)), h11)))
  (opt (binX Tryd.prog .none .eql 22 t9 t10) fun t179 =>
  opt (binX Tryd.prog .none .neq 4 t172 t179) fun t181_1 =>
  test t181_1
  (opt2 (call 13 [] h11) fun t184_1 h13 =>
  some (t184_1, h13))
  (some ((.lit (.bool false)), h11))))
  (some ((.lit (.bool false)), h9)))
  (some ((.lit (.bool false)), h9)))
  (some ((.lit (.bool false)), h9))

theorem TS9_0 (call : CallF) : (rk Tryd.prog call 186 (Code.snd (Code.snd (Code.snd (Code.snd (Code.snd (Code.snd (Code.snd (Code.snd (Code.snd c9)))))))))).1 (finK Tryd.prog Tryd.f9.results.toList) [] (finK Tryd.prog Tryd.f9.results.toList) (fun _ => stuckK) = fun s h => S9_0 call (s.rd 9) (s.rd 10) h := by funext s h; kernel_rfl

noncomputable def S9_1 (call : CallF) (t9 : AV) (t10 : AV) (t11 : AV) (t12 : AV) (t13 : AV) (t14 : AV) (t15 : AV) (t16 : AV) (t17 : AV) (t18 : AV) (t19 : AV) (t20 : AV) (h : Heap) : Res :=
  opt (fastBin .neq t12 (.lit (.int .i64 0))) fun t82 =>
  test t82
  (some ((.lit (.bool false)), h))
  (opt (fastBin .neq t14 (.lit (.int .i64 0))) fun t85 =>
  test t85
  (some ((.lit (.bool false)), h))
  (opt (fastBin .neq t16 (.lit (.int .i64 0))) fun t89 =>
  test t89
  (some ((.lit (.bool false)), h))
  (opt (fastBin .neq t18 (.lit (.int .i64 0))) fun t93 =>
  test t93
  (some ((.lit (.bool false)), h))
  (opt (fastBin .neq t20 (.lit (.int .i64 0))) fun t97 =>
  test t97
  (some ((.lit (.bool false)), h))
  (opt (binX Tryd.prog .none .neq 22 t11 t13) fun t102 =>
  test t102
  (some ((.lit (.bool false)), h))
  (opt (binX Tryd.prog .none .neq 22 t15 t9) fun t107 =>
  test t107
  (some ((.lit (.bool false)), h))
  (opt (binX Tryd.prog .none .neq 22 t17 t19) fun t112 =>
  test t112
  (some ((.lit (.bool false)), h))
  (S9_0 call t9 t10 h))))))))

theorem TS9_1 (call : CallF) : (rk Tryd.prog call 186 (Code.snd (Code.snd (Code.snd (Code.snd (Code.snd (Code.snd (Code.snd (Code.snd c9))))))))).1 (finK Tryd.prog Tryd.f9.results.toList) [] (finK Tryd.prog Tryd.f9.results.toList) (fun _ => stuckK) = fun s h => S9_1 call (s.rd 9) (s.rd 10) (s.rd 11) (s.rd 12) (s.rd 13) (s.rd 14) (s.rd 15) (s.rd 16) (s.rd 17) (s.rd 18) (s.rd 19) (s.rd 20) h := Eq.trans (seq_t (by kernel_rfl) (TS9_0 call) rfl) (by funext s h; kernel_rfl)

noncomputable def S9_2 (call : CallF) (t9 : AV) (t10 : AV) (t11 : AV) (t12 : AV) (t13 : AV) (t14 : AV) (t15 : AV) (t16 : AV) (t17 : AV) (t18 : AV) (h : Heap) : Res :=
  opt2 (call 18 [(.lit (.string ⟨⟨[109, 117, 108]⟩⟩)), t10, t9] h) fun t78 h1 =>
  opt (extractX t78 0) fun t79 =>
  opt (extractX t78 1) fun t80 =>
  S9_1 call t9 t10 t11 t12 t13 t14 t15 t16 t17 t18 t79 t80 h1

theorem TS9_2 (call : CallF) : (rk Tryd.prog call 186 (Code.snd (Code.snd (Code.snd (Code.snd (Code.snd (Code.snd (Code.snd c9)))))))).1 (finK Tryd.prog Tryd.f9.results.toList) [] (finK Tryd.prog Tryd.f9.results.toList) (fun _ => stuckK) = fun s h => S9_2 call (s.rd 9) (s.rd 10) (s.rd 11) (s.rd 12) (s.rd 13) (s.rd 14) (s.rd 15) (s.rd 16) (s.rd 17) (s.rd 18) h := Eq.trans (seq_t (by kernel_rfl) (TS9_1 call) rfl) (by funext s h; kernel_rfl)

noncomputable def S9_3 (call : CallF) (t9 : AV) (t10 : AV) (t11 : AV) (t12 : AV) (t13 : AV) (t14 : AV) (t15 : AV) (t16 : AV) (h : Heap) : Res :=
  opt2 (call 18 [(.lit (.string ⟨⟨[109, 117, 108]⟩⟩)), t9, t10] h) fun t72 h1 =>
  opt (extractX t72 0) fun t73 =>
  opt (extractX t72 1) fun t74 =>
  S9_2 call t9 t10 t11 t12 t13 t14 t15 t16 t73 t74 h1

theorem TS9_3 (call : CallF) : (rk Tryd.prog call 186 (Code.snd (Code.snd (Code.snd (Code.snd (Code.snd (Code.snd c9))))))).1 (finK Tryd.prog Tryd.f9.results.toList) [] (finK Tryd.prog Tryd.f9.results.toList) (fun _ => stuckK) = fun s h => S9_3 call (s.rd 9) (s.rd 10) (s.rd 11) (s.rd 12) (s.rd 13) (s.rd 14) (s.rd 15) (s.rd 16) h := Eq.trans (seq_t (by kernel_rfl) (TS9_2 call) rfl) (by funext s h; kernel_rfl)

noncomputable def S9_4 (call : CallF) (t9 : AV) (t10 : AV) (t11 : AV) (t12 : AV) (t13 : AV) (t14 : AV) (h : Heap) : Res :=
  opt2 (call 18 [(.lit (.string ⟨⟨[115, 117, 98]⟩⟩)), t11, t10] h) fun t66 h1 =>
  opt (extractX t66 0) fun t67 =>
  opt (extractX t66 1) fun t68 =>
  S9_3 call t9 t10 t11 t12 t13 t14 t67 t68 h1

theorem TS9_4 (call : CallF) : (rk Tryd.prog call 186 (Code.snd (Code.snd (Code.snd (Code.snd (Code.snd c9)))))).1 (finK Tryd.prog Tryd.f9.results.toList) [] (finK Tryd.prog Tryd.f9.results.toList) (fun _ => stuckK) = fun s h => S9_4 call (s.rd 9) (s.rd 10) (s.rd 11) (s.rd 12) (s.rd 13) (s.rd 14) h := Eq.trans (seq_t (by kernel_rfl) (TS9_3 call) rfl) (by funext s h; kernel_rfl)

noncomputable def S9_5 (call : CallF) (t9 : AV) (t10 : AV) (t11 : AV) (t12 : AV) (h : Heap) : Res :=
  opt2 (call 18 [(.lit (.string ⟨⟨[97, 100, 100]⟩⟩)), t10, t9] h) fun t60 h1 =>
  opt (extractX t60 0) fun t61 =>
  opt (extractX t60 1) fun t62 =>
  S9_4 call t9 t10 t11 t12 t61 t62 h1

theorem TS9_5 (call : CallF) : (rk Tryd.prog call 186 (Code.snd (Code.snd (Code.snd (Code.snd c9))))).1 (finK Tryd.prog Tryd.f9.results.toList) [] (finK Tryd.prog Tryd.f9.results.toList) (fun _ => stuckK) = fun s h => S9_5 call (s.rd 9) (s.rd 10) (s.rd 11) (s.rd 12) h := Eq.trans (seq_t (by kernel_rfl) (TS9_4 call) rfl) (by funext s h; kernel_rfl)

noncomputable def S9_6 (call : CallF) (t9 : AV) (t10 : AV) (h : Heap) : Res :=
  opt2 (call 18 [(.lit (.string ⟨⟨[97, 100, 100]⟩⟩)), t9, t10] h) fun t54 h1 =>
  opt (extractX t54 0) fun t55 =>
  opt (extractX t54 1) fun t56 =>
  S9_5 call t9 t10 t55 t56 h1

theorem TS9_6 (call : CallF) : (rk Tryd.prog call 186 (Code.snd (Code.snd (Code.snd c9)))).1 (finK Tryd.prog Tryd.f9.results.toList) [] (finK Tryd.prog Tryd.f9.results.toList) (fun _ => stuckK) = fun s h => S9_6 call (s.rd 9) (s.rd 10) h := Eq.trans (seq_t (by kernel_rfl) (TS9_5 call) rfl) (by funext s h; kernel_rfl)

noncomputable def S9_7 (call : CallF) (t2 : AV) (t3 : AV) (t9 : AV) (h : Heap) : Res :=
  opt2 (call 17 [t2, (.lit (.int .i64 0)), (.lit (.int .i64 1000))] h) fun t45 h1 =>
  opt (fastBin .sub t45 (.lit (.int .i64 500))) fun t46 =>
  opt2 (call 17 [t3, (.lit (.int .i64 0)), (.lit (.int .i64 1000))] h1) fun t48 h2 =>
  opt (fastBin .sub t48 (.lit (.int .i64 500))) fun t49 =>
  opt2 (call 19 [t46, t49] h2) fun t50 h3 =>
  S9_6 call t9 t50 h3

theorem TS9_7 (call : CallF) : (rk Tryd.prog call 186 (Code.snd (Code.snd c9))).1 (finK Tryd.prog Tryd.f9.results.toList) [] (finK Tryd.prog Tryd.f9.results.toList) (fun _ => stuckK) = fun s h => S9_7 call (s.rd 2) (s.rd 3) (s.rd 9) h := Eq.trans (seq_t (by kernel_rfl) (TS9_6 call) rfl) (by funext s h; kernel_rfl)

noncomputable def S9_8 (call : CallF) (t0 : AV) (t1 : AV) (t2 : AV) (t3 : AV) (h : Heap) : Res :=
  opt2 (call 17 [t0, (.lit (.int .i64 0)), (.lit (.int .i64 1000))] h) fun t38 h1 =>
  opt (fastBin .sub t38 (.lit (.int .i64 500))) fun t39 =>
  opt2 (call 17 [t1, (.lit (.int .i64 0)), (.lit (.int .i64 1000))] h1) fun t41 h2 =>
  opt (fastBin .sub t41 (.lit (.int .i64 500))) fun t42 =>
  opt2 (call 19 [t39, t42] h2) fun t43 h3 =>
  S9_7 call t2 t3 t43 h3

theorem TS9_8 (call : CallF) : (rk Tryd.prog call 186 (Code.snd c9)).1 (finK Tryd.prog Tryd.f9.results.toList) [] (finK Tryd.prog Tryd.f9.results.toList) (fun _ => stuckK) = fun s h => S9_8 call (s.rd 0) (s.rd 1) (s.rd 2) (s.rd 3) h := Eq.trans (seq_t (by kernel_rfl) (TS9_7 call) rfl) (by funext s h; kernel_rfl)

/-- hawser/hawserlaw2.NumRules -/
noncomputable def F9 (call : CallF) (a0 : AV) (a1 : AV) (a2 : AV) (a3 : AV) (h : Heap) : Res :=
  S9_8 call a0 a1 a2 a3 h

theorem TF9 (call : CallF) (a0 : AV) (a1 : AV) (a2 : AV) (a3 : AV) (h : Heap) : (rk Tryd.prog call 186 c9).1 (finK Tryd.prog Tryd.f9.results.toList) [] (finK Tryd.prog Tryd.f9.results.toList) (fun _ => stuckK) (argsTr gl 0 [a0, a1, a2, a3]) h = F9 call a0 a1 a2 a3 h := Eq.trans (congrFun (congrFun (seq_t (by kernel_rfl) (TS9_8 call) rfl) _) _) (by kernel_rfl)

noncomputable def N9 : FnF
  | call, [a0, a1, a2, a3], h => F9 call a0 a1 a2 a3 h
  | _, _, _ => none

theorem N9_ok : FnOk Tryd.prog gl 9 N9 := FnOk.of namesOk mixedOrders lowOk Tryd.func9 (by kernel_rfl) fun call args h r hF => by
  unfold N9 at hF
  split at hF
  · rw [← hF, ← TF9]; exact bodyK_at (by kernel_rfl) (by kernel_rfl) rfl rfl
  · cases hF

noncomputable def c10 : Code := codeOf Tryd.f10

noncomputable def S10_0 (call : CallF) (h : Heap) : Res :=
  opt2 (call 13 [] h) fun t133 h1 =>
  some (t133, h1)

theorem TS10_0 (call : CallF) : (rk Tryd.prog call 134 (Code.snd (Code.snd (Code.snd (Code.snd c10))))).1 (finK Tryd.prog Tryd.f10.results.toList) [] (finK Tryd.prog Tryd.f10.results.toList) (fun _ => stuckK) = fun s h => S10_0 call h := by funext s h; kernel_rfl

noncomputable def S10_2 (call : CallF) (r1 : AV → AV → AV → AV → AV → AV → AV → AV → Heap → Res) (t0 : AV) (t1 : AV) (t2 : AV) (t3 : AV) (t4 : AV) (t11 : AV) (t12 : AV) (t13 : AV) (h : Heap) : Res :=
  opt (fastBin .add t13 (.lit (.int .i64 1))) fun t35 =>
  r1 t0 t1 t2 t3 t4 t11 t12 t35 h

theorem TS10_2 (call : CallF) (r1 : AV → AV → AV → AV → AV → AV → AV → AV → Heap → Res) : (rk Tryd.prog call 134 (Code.snd (Code.snd (Code.bd (Code.bd (Code.snd (Code.fst (Code.snd (Code.snd (Code.snd c10)))))))))).1 (fun s h => r1 (s.rd 0) (s.rd 1) (s.rd 2) (s.rd 3) (s.rd 4) (s.rd 11) (s.rd 12) (s.rd 13) h) [(0, (fun s h => S10_0 call h))] (finK Tryd.prog Tryd.f10.results.toList) (fun _ => stuckK) = fun s h => S10_2 call r1 (s.rd 0) (s.rd 1) (s.rd 2) (s.rd 3) (s.rd 4) (s.rd 11) (s.rd 12) (s.rd 13) h := by funext s h; kernel_rfl

noncomputable def S10_3 (call : CallF) (r1 : AV → AV → AV → AV → AV → AV → AV → AV → Heap → Res) (t0 : AV) (t1 : AV) (t2 : AV) (t3 : AV) (t4 : AV) (t13 : AV) (h : Heap) : Res :=
  opt2 (call 29 [t1] h) fun t124 h1 =>
  opt2 (call 29 [t2] h1) fun t126 h2 =>
  opt2 (call 14 [t124, t126] h2) fun t127 h3 =>
  opt2 (call 29 [t3] h3) fun t129 h4 =>
  opt2 (call 29 [t4] h4) fun t131 h5 =>
  opt2 (call 14 [t129, t131] h5) fun t132 h6 =>
  S10_2 call r1 t0 t1 t2 t3 t4 t127 t132 t13 h6

theorem TS10_3 (call : CallF) (r1 : AV → AV → AV → AV → AV → AV → AV → AV → Heap → Res) : (rk Tryd.prog call 134 (Code.snd (Code.snd (Code.snd (Code.snd (Code.snd (Code.snd (Code.snd (Code.bd (Code.fst (Code.snd (Code.bd (Code.bd (Code.snd (Code.fst (Code.snd (Code.snd (Code.snd c10)))))))))))))))))).1 (fun s h => S10_2 call r1 (s.rd 0) (s.rd 1) (s.rd 2) (s.rd 3) (s.rd 4) (s.rd 11) (s.rd 12) (s.rd 13) h) [(1, (fun s h => S10_2 call r1 (s.rd 0) (s.rd 1) (s.rd 2) (s.rd 3) (s.rd 4) (s.rd 11) (s.rd 12) (s.rd 13) h)), (0, (fun s h => S10_0 call h))] (finK Tryd.prog Tryd.f10.results.toList) (fun _ => stuckK) = fun s h => S10_3 call r1 (s.rd 0) (s.rd 1) (s.rd 2) (s.rd 3) (s.rd 4) (s.rd 13) h := by funext s h; kernel_rfl

noncomputable def S10_4 (call : CallF) (r1 : AV → AV → AV → AV → AV → AV → AV → AV → Heap → Res) (t0 : AV) (t1 : AV) (t2 : AV) (t3 : AV) (t4 : AV) (t11 : AV) (t12 : AV) (t13 : AV) (t14 : AV) (t15 : AV) (t16 : AV) (t17 : AV) (t18 : AV) (t19 : AV) (t20 : AV) (t21 : AV) (t22 : AV) (t23 : AV) (t24 : AV) (t25 : AV) (h : Heap) : Res :=
  opt (binX Tryd.prog .none .neq 22 t14 t16) fun t74 =>
  test t74
  (some ((.lit (.bool false)), h))
  (opt (fastBin .neq t15 t17) fun t78 =>
  test t78
  (some ((.lit (.bool false)), h))
  (opt (binX Tryd.prog .none .neq 22 t18 t20) fun t83 =>
  test t83
  (some ((.lit (.bool false)), h))
  (opt (fastBin .neq t19 t21) fun t88 =>
  test t88
  (some ((.lit (.bool false)), h))
  (opt (fastBin .neq t22 t24) fun t93 =>
  test t93
  (some ((.lit (.bool false)), h))
  (opt (binX Tryd.prog .none .neq 4 t23 t25) fun t98 =>
  test t98
  (some ((.lit (.bool false)), h))
  (opt2 (call 20 [t11, t12] h) fun t103 h1 =>
  opt2 (call 26 [t11, t12] h1) fun t106 h2 =>
  opt (binX Tryd.prog .none .neq 4 t103 t106) fun t107 =>
  test t107
  (some ((.lit (.bool false)), h2))
  (opt2 (call 16 [t11] h2) fun t111 h3 =>
  opt2 (call 27 [t11] h3) fun t113 h4 =>
  opt (binX Tryd.prog .none .neq 4 t111 t113) fun t114 =>
  test t114
  (some ((.lit (.bool false)), h4))
  (opt2 (call 15 [t11] h4) fun t118 h5 =>
  opt2 (call 28 [t11] h5) fun t120 h6 =>
  opt (fastBin .neq t118 t120) fun t121 =>
  test t121
  (some ((.lit (.bool false)), h6))
  (S10_3 call r1 t0 t1 t2 t3 t4 t13 h6)))))))))

theorem TS10_4 (call : CallF) (r1 : AV → AV → AV → AV → AV → AV → AV → AV → Heap → Res) : (rk Tryd.prog call 134 (Code.snd (Code.snd (Code.snd (Code.snd (Code.snd (Code.snd (Code.bd (Code.fst (Code.snd (Code.bd (Code.bd (Code.snd (Code.fst (Code.snd (Code.snd (Code.snd c10))))))))))))))))).1 (fun s h => S10_2 call r1 (s.rd 0) (s.rd 1) (s.rd 2) (s.rd 3) (s.rd 4) (s.rd 11) (s.rd 12) (s.rd 13) h) [(1, (fun s h => S10_2 call r1 (s.rd 0) (s.rd 1) (s.rd 2) (s.rd 3) (s.rd 4) (s.rd 11) (s.rd 12) (s.rd 13) h)), (0, (fun s h => S10_0 call h))] (finK Tryd.prog Tryd.f10.results.toList) (fun _ => stuckK) = fun s h => S10_4 call r1 (s.rd 0) (s.rd 1) (s.rd 2) (s.rd 3) (s.rd 4) (s.rd 11) (s.rd 12) (s.rd 13) (s.rd 14) (s.rd 15) (s.rd 16) (s.rd 17) (s.rd 18) (s.rd 19) (s.rd 20) (s.rd 21) (s.rd 22) (s.rd 23) (s.rd 24) (s.rd 25) h := Eq.trans (seq_t (by kernel_rfl) (TS10_3 call r1) rfl) (by funext s h; kernel_rfl)

noncomputable def S10_5 (call : CallF) (r1 : AV → AV → AV → AV → AV → AV → AV → AV → Heap → Res) (t0 : AV) (t1 : AV) (t2 : AV) (t3 : AV) (t4 : AV) (t11 : AV) (t12 : AV) (t13 : AV) (t14 : AV) (t15 : AV) (t16 : AV) (t17 : AV) (t18 : AV) (t19 : AV) (t20 : AV) (t21 : AV) (t22 : AV) (t23 : AV) (h : Heap) : Res :=
  opt2 (call 25 [t11] h) fun t69 h1 =>
  opt (extractX t69 0) fun t70 =>
  opt (extractX t69 1) fun t71 =>
  S10_4 call r1 t0 t1 t2 t3 t4 t11 t12 t13 t14 t15 t16 t17 t18 t19 t20 t21 t22 t23 t70 t71 h1

theorem TS10_5 (call : CallF) (r1 : AV → AV → AV → AV → AV → AV → AV → AV → Heap → Res) : (rk Tryd.prog call 134 (Code.snd (Code.snd (Code.snd (Code.snd (Code.snd (Code.bd (Code.fst (Code.snd (Code.bd (Code.bd (Code.snd (Code.fst (Code.snd (Code.snd (Code.snd c10)))))))))))))))).1 (fun s h => S10_2 call r1 (s.rd 0) (s.rd 1) (s.rd 2) (s.rd 3) (s.rd 4) (s.rd 11) (s.rd 12) (s.rd 13) h) [(1, (fun s h => S10_2 call r1 (s.rd 0) (s.rd 1) (s.rd 2) (s.rd 3) (s.rd 4) (s.rd 11) (s.rd 12) (s.rd 13) h)), (0, (fun s h => S10_0 call h))] (finK Tryd.prog Tryd.f10.results.toList) (fun _ => stuckK) = fun s h => S10_5 call r1 (s.rd 0) (s.rd 1) (s.rd 2) (s.rd 3) (s.rd 4) (s.rd 11) (s.rd 12) (s.rd 13) (s.rd 14) (s.rd 15) (s.rd 16) (s.rd 17) (s.rd 18) (s.rd 19) (s.rd 20) (s.rd 21) (s.rd 22) (s.rd 23) h := Eq.trans (seq_t (by kernel_rfl) (TS10_4 call r1) rfl) (by funext s h; kernel_rfl)

noncomputable def S10_6 (call : CallF) (r1 : AV → AV → AV → AV → AV → AV → AV → AV → Heap → Res) (t0 : AV) (t1 : AV) (t2 : AV) (t3 : AV) (t4 : AV) (t11 : AV) (t12 : AV) (t13 : AV) (t14 : AV) (t15 : AV) (t16 : AV) (t17 : AV) (t18 : AV) (t19 : AV) (t20 : AV) (t21 : AV) (h : Heap) : Res :=
  opt2 (call 22 [t11] h) fun t64 h1 =>
  opt (extractX t64 0) fun t65 =>
  opt (extractX t64 1) fun t66 =>
  S10_5 call r1 t0 t1 t2 t3 t4 t11 t12 t13 t14 t15 t16 t17 t18 t19 t20 t21 t65 t66 h1

theorem TS10_6 (call : CallF) (r1 : AV → AV → AV → AV → AV → AV → AV → AV → Heap → Res) : (rk Tryd.prog call 134 (Code.snd (Code.snd (Code.snd (Code.snd (Code.bd (Code.fst (Code.snd (Code.bd (Code.bd (Code.snd (Code.fst (Code.snd (Code.snd (Code.snd c10))))))))))))))).1 (fun s h => S10_2 call r1 (s.rd 0) (s.rd 1) (s.rd 2) (s.rd 3) (s.rd 4) (s.rd 11) (s.rd 12) (s.rd 13) h) [(1, (fun s h => S10_2 call r1 (s.rd 0) (s.rd 1) (s.rd 2) (s.rd 3) (s.rd 4) (s.rd 11) (s.rd 12) (s.rd 13) h)), (0, (fun s h => S10_0 call h))] (finK Tryd.prog Tryd.f10.results.toList) (fun _ => stuckK) = fun s h => S10_6 call r1 (s.rd 0) (s.rd 1) (s.rd 2) (s.rd 3) (s.rd 4) (s.rd 11) (s.rd 12) (s.rd 13) (s.rd 14) (s.rd 15) (s.rd 16) (s.rd 17) (s.rd 18) (s.rd 19) (s.rd 20) (s.rd 21) h := Eq.trans (seq_t (by kernel_rfl) (TS10_5 call r1) rfl) (by funext s h; kernel_rfl)

noncomputable def S10_7 (call : CallF) (r1 : AV → AV → AV → AV → AV → AV → AV → AV → Heap → Res) (t0 : AV) (t1 : AV) (t2 : AV) (t3 : AV) (t4 : AV) (t11 : AV) (t12 : AV) (t13 : AV) (t14 : AV) (t15 : AV) (t16 : AV) (t17 : AV) (t18 : AV) (t19 : AV) (h : Heap) : Res :=
  opt2 (call 24 [t0, t11] h) fun t59 h1 =>
  opt (extractX t59 0) fun t60 =>
  opt (extractX t59 1) fun t61 =>
  S10_6 call r1 t0 t1 t2 t3 t4 t11 t12 t13 t14 t15 t16 t17 t18 t19 t60 t61 h1

theorem TS10_7 (call : CallF) (r1 : AV → AV → AV → AV → AV → AV → AV → AV → Heap → Res) : (rk Tryd.prog call 134 (Code.snd (Code.snd (Code.snd (Code.bd (Code.fst (Code.snd (Code.bd (Code.bd (Code.snd (Code.fst (Code.snd (Code.snd (Code.snd c10)))))))))))))).1 (fun s h => S10_2 call r1 (s.rd 0) (s.rd 1) (s.rd 2) (s.rd 3) (s.rd 4) (s.rd 11) (s.rd 12) (s.rd 13) h) [(1, (fun s h => S10_2 call r1 (s.rd 0) (s.rd 1) (s.rd 2) (s.rd 3) (s.rd 4) (s.rd 11) (s.rd 12) (s.rd 13) h)), (0, (fun s h => S10_0 call h))] (finK Tryd.prog Tryd.f10.results.toList) (fun _ => stuckK) = fun s h => S10_7 call r1 (s.rd 0) (s.rd 1) (s.rd 2) (s.rd 3) (s.rd 4) (s.rd 11) (s.rd 12) (s.rd 13) (s.rd 14) (s.rd 15) (s.rd 16) (s.rd 17) (s.rd 18) (s.rd 19) h := Eq.trans (seq_t (by kernel_rfl) (TS10_6 call r1) rfl) (by funext s h; kernel_rfl)

noncomputable def S10_8 (call : CallF) (r1 : AV → AV → AV → AV → AV → AV → AV → AV → Heap → Res) (t0 : AV) (t1 : AV) (t2 : AV) (t3 : AV) (t4 : AV) (t11 : AV) (t12 : AV) (t13 : AV) (t14 : AV) (t15 : AV) (t16 : AV) (t17 : AV) (h : Heap) : Res :=
  opt2 (call 21 [t0, t11] h) fun t53 h1 =>
  opt (extractX t53 0) fun t54 =>
  opt (extractX t53 1) fun t55 =>
  S10_7 call r1 t0 t1 t2 t3 t4 t11 t12 t13 t14 t15 t16 t17 t54 t55 h1

theorem TS10_8 (call : CallF) (r1 : AV → AV → AV → AV → AV → AV → AV → AV → Heap → Res) : (rk Tryd.prog call 134 (Code.snd (Code.snd (Code.bd (Code.fst (Code.snd (Code.bd (Code.bd (Code.snd (Code.fst (Code.snd (Code.snd (Code.snd c10))))))))))))).1 (fun s h => S10_2 call r1 (s.rd 0) (s.rd 1) (s.rd 2) (s.rd 3) (s.rd 4) (s.rd 11) (s.rd 12) (s.rd 13) h) [(1, (fun s h => S10_2 call r1 (s.rd 0) (s.rd 1) (s.rd 2) (s.rd 3) (s.rd 4) (s.rd 11) (s.rd 12) (s.rd 13) h)), (0, (fun s h => S10_0 call h))] (finK Tryd.prog Tryd.f10.results.toList) (fun _ => stuckK) = fun s h => S10_8 call r1 (s.rd 0) (s.rd 1) (s.rd 2) (s.rd 3) (s.rd 4) (s.rd 11) (s.rd 12) (s.rd 13) (s.rd 14) (s.rd 15) (s.rd 16) (s.rd 17) h := Eq.trans (seq_t (by kernel_rfl) (TS10_7 call r1) rfl) (by funext s h; kernel_rfl)

noncomputable def S10_9 (call : CallF) (r1 : AV → AV → AV → AV → AV → AV → AV → AV → Heap → Res) (t0 : AV) (t1 : AV) (t2 : AV) (t3 : AV) (t4 : AV) (t11 : AV) (t12 : AV) (t13 : AV) (t14 : AV) (t15 : AV) (h : Heap) : Res :=
  opt2 (call 23 [t0, t11, t12] h) fun t47 h1 =>
  opt (extractX t47 0) fun t48 =>
  opt (extractX t47 1) fun t49 =>
  S10_8 call r1 t0 t1 t2 t3 t4 t11 t12 t13 t14 t15 t48 t49 h1

theorem TS10_9 (call : CallF) (r1 : AV → AV → AV → AV → AV → AV → AV → AV → Heap → Res) : (rk Tryd.prog call 134 (Code.snd (Code.bd (Code.fst (Code.snd (Code.bd (Code.bd (Code.snd (Code.fst (Code.snd (Code.snd (Code.snd c10)))))))))))).1 (fun s h => S10_2 call r1 (s.rd 0) (s.rd 1) (s.rd 2) (s.rd 3) (s.rd 4) (s.rd 11) (s.rd 12) (s.rd 13) h) [(1, (fun s h => S10_2 call r1 (s.rd 0) (s.rd 1) (s.rd 2) (s.rd 3) (s.rd 4) (s.rd 11) (s.rd 12) (s.rd 13) h)), (0, (fun s h => S10_0 call h))] (finK Tryd.prog Tryd.f10.results.toList) (fun _ => stuckK) = fun s h => S10_9 call r1 (s.rd 0) (s.rd 1) (s.rd 2) (s.rd 3) (s.rd 4) (s.rd 11) (s.rd 12) (s.rd 13) (s.rd 14) (s.rd 15) h := Eq.trans (seq_t (by kernel_rfl) (TS10_8 call r1) rfl) (by funext s h; kernel_rfl)

noncomputable def S10_10 (call : CallF) (r1 : AV → AV → AV → AV → AV → AV → AV → AV → Heap → Res) (t0 : AV) (t1 : AV) (t2 : AV) (t3 : AV) (t4 : AV) (t11 : AV) (t12 : AV) (t13 : AV) (h : Heap) : Res :=
  opt2 (call 18 [t0, t11, t12] h) fun t40 h1 =>
  opt (extractX t40 0) fun t41 =>
  opt (extractX t40 1) fun t42 =>
  S10_9 call r1 t0 t1 t2 t3 t4 t11 t12 t13 t41 t42 h1

theorem TS10_10 (call : CallF) (r1 : AV → AV → AV → AV → AV → AV → AV → AV → Heap → Res) : (rk Tryd.prog call 134 (Code.snd (Code.bd (Code.bd (Code.snd (Code.fst (Code.snd (Code.snd (Code.snd c10))))))))).1 (fun s h => r1 (s.rd 0) (s.rd 1) (s.rd 2) (s.rd 3) (s.rd 4) (s.rd 11) (s.rd 12) (s.rd 13) h) [(0, (fun s h => S10_0 call h))] (finK Tryd.prog Tryd.f10.results.toList) (fun _ => stuckK) = fun s h => S10_10 call r1 (s.rd 0) (s.rd 1) (s.rd 2) (s.rd 3) (s.rd 4) (s.rd 11) (s.rd 12) (s.rd 13) h := Eq.trans (seq_t (by kernel_rfl) (TS10_2 call r1) (block_t (id := 1) (by kernel_rfl) (seq_t (by kernel_rfl) (TS10_9 call r1) rfl))) (by funext s h; kernel_rfl)

noncomputable def S10_11b (call : CallF) (r1 : AV → AV → AV → AV → AV → AV → AV → AV → Heap → Res) (t0 : AV) (t1 : AV) (t2 : AV) (t3 : AV) (t4 : AV) (t11 : AV) (t12 : AV) (t13 : AV) (h : Heap) : Res :=
  opt (fastBin .lss t13 (.lit (.int .i64 2))) fun t33 =>
  test t33
  (S10_10 call r1 t0 t1 t2 t3 t4 t11 t12 t13 h)
  (S10_0 call h)

theorem TS10_11b (call : CallF) (r1 : AV → AV → AV → AV → AV → AV → AV → AV → Heap → Res) : (rk Tryd.prog call 134 (Code.bd (Code.bd (Code.snd (Code.fst (Code.snd (Code.snd (Code.snd c10)))))))).1 (fun s h => r1 (s.rd 0) (s.rd 1) (s.rd 2) (s.rd 3) (s.rd 4) (s.rd 11) (s.rd 12) (s.rd 13) h) [(0, (fun s h => S10_0 call h))] (finK Tryd.prog Tryd.f10.results.toList) (fun _ => stuckK) = fun s h => S10_11b call r1 (s.rd 0) (s.rd 1) (s.rd 2) (s.rd 3) (s.rd 4) (s.rd 11) (s.rd 12) (s.rd 13) h := Eq.trans (seq_t (by kernel_rfl) (TS10_10 call r1) rfl) (by funext s h; kernel_rfl)

noncomputable def S10_1l (call : CallF) : Nat → AV → AV → AV → AV → AV → AV → AV → AV → Heap → Res
  | 0 => fun _ _ _ _ _ _ _ _ _ => none
  | k + 1 => S10_11b call (S10_1l call k)

theorem TS10_1l (call : CallF) : (rk Tryd.prog call 134 (Code.bd (Code.snd (Code.fst (Code.snd (Code.snd (Code.snd c10))))))).1 (fun s h => S10_0 call h) [(0, (fun s h => S10_0 call h))] (finK Tryd.prog Tryd.f10.results.toList) (fun _ => stuckK) = fun s h => S10_1l call rounds (s.rd 0) (s.rd 1) (s.rd 2) (s.rd 3) (s.rd 4) (s.rd 11) (s.rd 12) (s.rd 13) h :=
  loop_t (by kernel_rfl) (loop_ind (A := fun m => fun s h => S10_1l call m (s.rd 0) (s.rd 1) (s.rd 2) (s.rd 3) (s.rd 4) (s.rd 11) (s.rd 12) (s.rd 13) h) rfl (fun m => TS10_11b call (S10_1l call m)) rounds)

noncomputable def S10_12 (call : CallF) (t0 : AV) (t1 : AV) (t2 : AV) (t3 : AV) (t4 : AV) (t11 : AV) (t12 : AV) (t13 : AV) (h : Heap) : Res :=
  S10_1l call rounds t0 t1 t2 t3 t4 t11 t12 t13 h

theorem TS10_12 (call : CallF) : (rk Tryd.prog call 134 (Code.snd (Code.fst (Code.snd (Code.snd (Code.snd c10)))))).1 (fun s h => S10_0 call h) [] (finK Tryd.prog Tryd.f10.results.toList) (fun _ => stuckK) = fun s h => S10_12 call (s.rd 0) (s.rd 1) (s.rd 2) (s.rd 3) (s.rd 4) (s.rd 11) (s.rd 12) (s.rd 13) h := Eq.trans (block_t (id := 0) (by kernel_rfl) (TS10_1l call)) (by funext s h; kernel_rfl)

noncomputable def S10_13 (call : CallF) (t0 : AV) (t1 : AV) (t2 : AV) (t3 : AV) (t4 : AV) (t11 : AV) (t12 : AV) (h : Heap) : Res :=
  S10_12 call t0 t1 t2 t3 t4 t11 t12 (.lit (.int .i64 0)) h

theorem TS10_13 (call : CallF) : (rk Tryd.prog call 134 (Code.snd (Code.snd (Code.snd c10)))).1 (finK Tryd.prog Tryd.f10.results.toList) [] (finK Tryd.prog Tryd.f10.results.toList) (fun _ => stuckK) = fun s h => S10_13 call (s.rd 0) (s.rd 1) (s.rd 2) (s.rd 3) (s.rd 4) (s.rd 11) (s.rd 12) h := Eq.trans (seq_t (by kernel_rfl) (TS10_0 call) (seq_t (by kernel_rfl) (TS10_12 call) rfl)) (by funext s h; kernel_rfl)

noncomputable def S10_14 (call : CallF) (t0 : AV) (t1 : AV) (t2 : AV) (t3 : AV) (t4 : AV) (t11 : AV) (h : Heap) : Res :=
  opt (litBi Tryd.prog .complex [40, 40] 22 [false, false] [t3, t4]) fun t31 =>
  S10_13 call t0 t1 t2 t3 t4 t11 t31 h

theorem TS10_14 (call : CallF) : (rk Tryd.prog call 134 (Code.snd (Code.snd c10))).1 (finK Tryd.prog Tryd.f10.results.toList) [] (finK Tryd.prog Tryd.f10.results.toList) (fun _ => stuckK) = fun s h => S10_14 call (s.rd 0) (s.rd 1) (s.rd 2) (s.rd 3) (s.rd 4) (s.rd 11) h := Eq.trans (seq_t (by kernel_rfl) (TS10_13 call) rfl) (by funext s h; kernel_rfl)

noncomputable def S10_15 (call : CallF) (t0 : AV) (t1 : AV) (t2 : AV) (t3 : AV) (t4 : AV) (h : Heap) : Res :=
  opt (litBi Tryd.prog .complex [40, 40] 22 [false, false] [t1, t2]) fun t28 =>
  S10_14 call t0 t1 t2 t3 t4 t28 h

theorem TS10_15 (call : CallF) : (rk Tryd.prog call 134 (Code.snd c10)).1 (finK Tryd.prog Tryd.f10.results.toList) [] (finK Tryd.prog Tryd.f10.results.toList) (fun _ => stuckK) = fun s h => S10_15 call (s.rd 0) (s.rd 1) (s.rd 2) (s.rd 3) (s.rd 4) h := Eq.trans (seq_t (by kernel_rfl) (TS10_14 call) rfl) (by funext s h; kernel_rfl)

/-- hawser/hawserlaw2.NumReckons -/
noncomputable def F10 (call : CallF) (a0 : AV) (a1 : AV) (a2 : AV) (a3 : AV) (a4 : AV) (h : Heap) : Res :=
  S10_15 call a0 a1 a2 a3 a4 h

theorem TF10 (call : CallF) (a0 : AV) (a1 : AV) (a2 : AV) (a3 : AV) (a4 : AV) (h : Heap) : (rk Tryd.prog call 134 c10).1 (finK Tryd.prog Tryd.f10.results.toList) [] (finK Tryd.prog Tryd.f10.results.toList) (fun _ => stuckK) (argsTr gl 0 [a0, a1, a2, a3, a4]) h = F10 call a0 a1 a2 a3 a4 h := Eq.trans (congrFun (congrFun (seq_t (by kernel_rfl) (TS10_15 call) rfl) _) _) (by kernel_rfl)

noncomputable def N10 : FnF
  | call, [a0, a1, a2, a3, a4], h => F10 call a0 a1 a2 a3 a4 h
  | _, _, _ => none

theorem N10_ok : FnOk Tryd.prog gl 10 N10 := FnOk.of namesOk mixedOrders lowOk Tryd.func10 (by kernel_rfl) fun call args h r hF => by
  unfold N10 at hF
  split at hF
  · rw [← hF, ← TF10]; exact bodyK_at (by kernel_rfl) (by kernel_rfl) rfl rfl
  · cases hF

noncomputable def c11 : Code := codeOf Tryd.f11

noncomputable def S11_0 (call : CallF) (t9 : AV) (h : Heap) : Res :=
  opt2 (call 16 [t9] h) fun t70 h1 =>
  opt (notX t70) fun t71 =>
  test t71
  (some ((.tup [(.lit (.complex .f64 0 0)), (.lit (.bool false))]), h1))
  (opt2 (call 33 [t9] h1) fun t73 h2 =>
  some ((.tup [t73, (.lit (.bool true))]), h2))

theorem TS11_0 (call : CallF) : (rk Tryd.prog call 74 (Code.snd (Code.snd (Code.snd (Code.snd (Code.snd (Code.snd c11))))))).1 (finK Tryd.prog Tryd.f11.results.toList) [] (finK Tryd.prog Tryd.f11.results.toList) (fun _ => stuckK) = fun s h => S11_0 call (s.rd 9) h := by funext s h; kernel_rfl

noncomputable def S11_1 (call : CallF) (t6 : AV) (t8 : AV) (t10 : AV) (h : Heap) : Res :=
  opt (fastIndex t6 (.lit (.int .i64 0))) fun t65 =>
  opt (fastBin .eql t65 (.lit (.int .u8 45))) fun t66 =>
  opt2 (call 32 [t10, t66] h) fun t67 h1 =>
  opt (litBi Tryd.prog .complex [40, 40] 22 [false, false] [t8, t67]) fun t68 =>
  S11_0 call t68 h1

theorem TS11_1 (call : CallF) : (rk Tryd.prog call 74 (Code.snd (Code.snd (Code.thn (Code.snd (Code.els (Code.snd (Code.els (Code.snd (Code.els (Code.snd (Code.bd (Code.fst (Code.snd (Code.snd (Code.snd (Code.snd (Code.snd c11)))))))))))))))))).1 (fun s h => S11_0 call (s.rd 9) h) [(0, (fun s h => S11_0 call (s.rd 9) h))] (finK Tryd.prog Tryd.f11.results.toList) (fun _ => stuckK) = fun s h => S11_1 call (s.rd 6) (s.rd 8) (s.rd 10) h := by funext s h; kernel_rfl

noncomputable def S11_2 (call : CallF) (t6 : AV) (t8 : AV) (t10 : AV) (t61 : AV) (h : Heap) : Res :=
  test t61
  (some ((.tup [(.lit (.complex .f64 0 0)), (.lit (.bool false))]), h))
  (S11_1 call t6 t8 t10 h)

theorem TS11_2 (call : CallF) : (rk Tryd.prog call 74 (Code.snd (Code.fst (Code.snd (Code.thn (Code.snd (Code.els (Code.snd (Code.els (Code.snd (Code.els (Code.snd (Code.bd (Code.fst (Code.snd (Code.snd (Code.snd (Code.snd (Code.snd c11))))))))))))))))))).1 (fun s h => S11_1 call (s.rd 6) (s.rd 8) (s.rd 10) h) [(0, (fun s h => S11_0 call (s.rd 9) h))] (finK Tryd.prog Tryd.f11.results.toList) (fun _ => stuckK) = fun s h => S11_2 call (s.rd 6) (s.rd 8) (s.rd 10) (s.rd 61) h := by funext s h; kernel_rfl

noncomputable def S11_3 (call : CallF) (t6 : AV) (t8 : AV) (t10 : AV) (t11 : AV) (t12 : AV) (h : Heap) : Res :=
  opt (notX t12) fun t57 =>
  test t57
  (S11_2 call t6 t8 t10 (.lit (.bool true)) h)
  (opt (fastBin .neq t11 (.lit (.string ⟨⟨[105]⟩⟩))) fun t60 =>
  S11_2 call t6 t8 t10 t60 h)

theorem TS11_3 (call : CallF) : (rk Tryd.prog call 74 (Code.snd (Code.thn (Code.snd (Code.els (Code.snd (Code.els (Code.snd (Code.els (Code.snd (Code.bd (Code.fst (Code.snd (Code.snd (Code.snd (Code.snd (Code.snd c11))))))))))))))))).1 (fun s h => S11_0 call (s.rd 9) h) [(0, (fun s h => S11_0 call (s.rd 9) h))] (finK Tryd.prog Tryd.f11.results.toList) (fun _ => stuckK) = fun s h => S11_3 call (s.rd 6) (s.rd 8) (s.rd 10) (s.rd 11) (s.rd 12) h := Eq.trans (seq_t (by kernel_rfl) (TS11_1 call) (seq_t (by kernel_rfl) (TS11_2 call) rfl)) (by funext s h; kernel_rfl)

noncomputable def S11_4 (call : CallF) (t6 : AV) (t8 : AV) (h : Heap) : Res :=
  opt (fastCut t6 (some (.lit (.int .i64 1))) none none) fun t51 =>
  opt2 (call 31 [t51] h) fun t52 h1 =>
  opt (extractX t52 0) fun t53 =>
  opt (extractX t52 1) fun t54 =>
  opt (extractX t52 2) fun t55 =>
  S11_3 call t6 t8 t53 t54 t55 h1

theorem TS11_4 (call : CallF) : (rk Tryd.prog call 74 (Code.thn (Code.snd (Code.els (Code.snd (Code.els (Code.snd (Code.els (Code.snd (Code.bd (Code.fst (Code.snd (Code.snd (Code.snd (Code.snd (Code.snd c11)))))))))))))))).1 (fun s h => S11_0 call (s.rd 9) h) [(0, (fun s h => S11_0 call (s.rd 9) h))] (finK Tryd.prog Tryd.f11.results.toList) (fun _ => stuckK) = fun s h => S11_4 call (s.rd 6) (s.rd 8) h := Eq.trans (seq_t (by kernel_rfl) (TS11_3 call) rfl) (by funext s h; kernel_rfl)

noncomputable def S11_5 (call : CallF) (t6 : AV) (t8 : AV) (t40 : AV) (h : Heap) : Res :=
  test t40
  (S11_4 call t6 t8 h)
  (some ((.tup [(.lit (.complex .f64 0 0)), (.lit (.bool false))]), h))

theorem TS11_5 (call : CallF) : (rk Tryd.prog call 74 (Code.snd (Code.els (Code.snd (Code.els (Code.snd (Code.els (Code.snd (Code.bd (Code.fst (Code.snd (Code.snd (Code.snd (Code.snd (Code.snd c11))))))))))))))).1 (fun s h => S11_0 call (s.rd 9) h) [(0, (fun s h => S11_0 call (s.rd 9) h))] (finK Tryd.prog Tryd.f11.results.toList) (fun _ => stuckK) = fun s h => S11_5 call (s.rd 6) (s.rd 8) (s.rd 40) h := Eq.trans (cond_t (by kernel_rfl) (TS11_4 call) rfl) (by funext s h; kernel_rfl)

noncomputable def S11_6 (call : CallF) (t6 : AV) (t8 : AV) (h : Heap) : Res :=
  opt (fastIndex t6 (.lit (.int .i64 0))) fun t42 =>
  opt (fastBin .eql t42 (.lit (.int .u8 43))) fun t43 =>
  test t43
  (S11_5 call t6 t8 (.lit (.bool true)) h)
  (opt (fastIndex t6 (.lit (.int .i64 0))) fun t46 =>
  opt (fastBin .eql t46 (.lit (.int .u8 45))) fun t47 =>
  S11_5 call t6 t8 t47 h)

theorem TS11_6 (call : CallF) : (rk Tryd.prog call 74 (Code.els (Code.snd (Code.els (Code.snd (Code.els (Code.snd (Code.bd (Code.fst (Code.snd (Code.snd (Code.snd (Code.snd (Code.snd c11)))))))))))))).1 (fun s h => S11_0 call (s.rd 9) h) [(0, (fun s h => S11_0 call (s.rd 9) h))] (finK Tryd.prog Tryd.f11.results.toList) (fun _ => stuckK) = fun s h => S11_6 call (s.rd 6) (s.rd 8) h := Eq.trans (seq_t (by kernel_rfl) (TS11_5 call) rfl) (by funext s h; kernel_rfl)

noncomputable def S11_7 (call : CallF) (t6 : AV) (t8 : AV) (t35 : AV) (h : Heap) : Res :=
  test t35
  (opt (litBi Tryd.prog .complex [40, 40] 22 [true, false] [(.lit (.float .f64 0)), t8]) fun t39 =>
  S11_0 call t39 h)
  (S11_6 call t6 t8 h)

theorem TS11_7 (call : CallF) : (rk Tryd.prog call 74 (Code.snd (Code.els (Code.snd (Code.els (Code.snd (Code.bd (Code.fst (Code.snd (Code.snd (Code.snd (Code.snd (Code.snd c11))))))))))))).1 (fun s h => S11_0 call (s.rd 9) h) [(0, (fun s h => S11_0 call (s.rd 9) h))] (finK Tryd.prog Tryd.f11.results.toList) (fun _ => stuckK) = fun s h => S11_7 call (s.rd 6) (s.rd 8) (s.rd 35) h := Eq.trans (cond_t (by kernel_rfl) rfl (TS11_6 call)) (by funext s h; kernel_rfl)

noncomputable def S11_8 (call : CallF) (t6 : AV) (t8 : AV) (h : Heap) : Res :=
  opt (fastBin .eql t6 (.lit (.string ⟨⟨[105]⟩⟩))) fun t37 =>
  S11_7 call t6 t8 t37 h

theorem TS11_8 (call : CallF) : (rk Tryd.prog call 74 (Code.els (Code.snd (Code.els (Code.snd (Code.bd (Code.fst (Code.snd (Code.snd (Code.snd (Code.snd (Code.snd c11)))))))))))).1 (fun s h => S11_0 call (s.rd 9) h) [(0, (fun s h => S11_0 call (s.rd 9) h))] (finK Tryd.prog Tryd.f11.results.toList) (fun _ => stuckK) = fun s h => S11_8 call (s.rd 6) (s.rd 8) h := Eq.trans (seq_t (by kernel_rfl) (TS11_7 call) rfl) (by funext s h; kernel_rfl)

noncomputable def S11_9 (call : CallF) (t6 : AV) (t8 : AV) (t30 : AV) (h : Heap) : Res :=
  test t30
  (opt (litBi Tryd.prog .complex [40, 40] 22 [false, true] [t8, (.lit (.float .f64 0))]) fun t34 =>
  S11_0 call t34 h)
  (S11_8 call t6 t8 h)

theorem TS11_9 (call : CallF) : (rk Tryd.prog call 74 (Code.snd (Code.els (Code.snd (Code.bd (Code.fst (Code.snd (Code.snd (Code.snd (Code.snd (Code.snd c11))))))))))).1 (fun s h => S11_0 call (s.rd 9) h) [(0, (fun s h => S11_0 call (s.rd 9) h))] (finK Tryd.prog Tryd.f11.results.toList) (fun _ => stuckK) = fun s h => S11_9 call (s.rd 6) (s.rd 8) (s.rd 30) h := Eq.trans (cond_t (by kernel_rfl) rfl (TS11_8 call)) (by funext s h; kernel_rfl)

noncomputable def S11_10 (call : CallF) (t6 : AV) (t8 : AV) (h : Heap) : Res :=
  opt (fastBin .eql t6 (.lit (.string ⟨⟨[]⟩⟩))) fun t32 =>
  S11_9 call t6 t8 t32 h

theorem TS11_10 (call : CallF) : (rk Tryd.prog call 74 (Code.els (Code.snd (Code.bd (Code.fst (Code.snd (Code.snd (Code.snd (Code.snd (Code.snd c11)))))))))).1 (fun s h => S11_0 call (s.rd 9) h) [(0, (fun s h => S11_0 call (s.rd 9) h))] (finK Tryd.prog Tryd.f11.results.toList) (fun _ => stuckK) = fun s h => S11_10 call (s.rd 6) (s.rd 8) h := Eq.trans (seq_t (by kernel_rfl) (TS11_9 call) rfl) (by funext s h; kernel_rfl)

noncomputable def S11_11 (call : CallF) (t6 : AV) (t8 : AV) (t27 : AV) (h : Heap) : Res :=
  test t27
  (some ((.tup [(.lit (.complex .f64 0 0)), (.lit (.bool false))]), h))
  (S11_10 call t6 t8 h)

theorem TS11_11 (call : CallF) : (rk Tryd.prog call 74 (Code.snd (Code.bd (Code.fst (Code.snd (Code.snd (Code.snd (Code.snd (Code.snd c11))))))))).1 (fun s h => S11_0 call (s.rd 9) h) [(0, (fun s h => S11_0 call (s.rd 9) h))] (finK Tryd.prog Tryd.f11.results.toList) (fun _ => stuckK) = fun s h => S11_11 call (s.rd 6) (s.rd 8) (s.rd 27) h := Eq.trans (cond_t (by kernel_rfl) rfl (TS11_10 call)) (by funext s h; kernel_rfl)

noncomputable def S11_12 (call : CallF) (t6 : AV) (t7 : AV) (t8 : AV) (h : Heap) : Res :=
  opt (notX t7) fun t29 =>
  S11_11 call t6 t8 t29 h

theorem TS11_12 (call : CallF) : (rk Tryd.prog call 74 (Code.snd (Code.snd (Code.snd (Code.snd (Code.snd c11)))))).1 (finK Tryd.prog Tryd.f11.results.toList) [] (finK Tryd.prog Tryd.f11.results.toList) (fun _ => stuckK) = fun s h => S11_12 call (s.rd 6) (s.rd 7) (s.rd 8) h := Eq.trans (seq_t (by kernel_rfl) (TS11_0 call) (block_t (id := 0) (by kernel_rfl) (seq_t (by kernel_rfl) (TS11_11 call) rfl))) (by funext s h; kernel_rfl)

noncomputable def S11_13 (call : CallF) (t6 : AV) (t7 : AV) (t8 : AV) (h : Heap) : Res :=
  S11_12 call t6 t7 t8 h

theorem TS11_13 (call : CallF) : (rk Tryd.prog call 74 (Code.snd (Code.snd (Code.snd (Code.snd c11))))).1 (finK Tryd.prog Tryd.f11.results.toList) [] (finK Tryd.prog Tryd.f11.results.toList) (fun _ => stuckK) = fun s h => S11_13 call (s.rd 6) (s.rd 7) (s.rd 8) h := Eq.trans (seq_t (by kernel_rfl) (TS11_12 call) rfl) (by funext s h; kernel_rfl)

noncomputable def S11_14 (call : CallF) (t4 : AV) (t5 : AV) (t6 : AV) (t7 : AV) (h : Heap) : Res :=
  opt2 (call 32 [t5, t4] h) fun t26 h1 =>
  S11_13 call t6 t7 t26 h1

theorem TS11_14 (call : CallF) : (rk Tryd.prog call 74 (Code.snd (Code.snd (Code.snd c11)))).1 (finK Tryd.prog Tryd.f11.results.toList) [] (finK Tryd.prog Tryd.f11.results.toList) (fun _ => stuckK) = fun s h => S11_14 call (s.rd 4) (s.rd 5) (s.rd 6) (s.rd 7) h := Eq.trans (seq_t (by kernel_rfl) (TS11_13 call) rfl) (by funext s h; kernel_rfl)

noncomputable def S11_15 (call : CallF) (t0 : AV) (t4 : AV) (h : Heap) : Res :=
  opt2 (call 31 [t0] h) fun t20 h1 =>
  opt (extractX t20 0) fun t21 =>
  opt (extractX t20 1) fun t22 =>
  opt (extractX t20 2) fun t23 =>
  S11_14 call t4 t21 t22 t23 h1

theorem TS11_15 (call : CallF) : (rk Tryd.prog call 74 (Code.snd (Code.snd c11))).1 (finK Tryd.prog Tryd.f11.results.toList) [] (finK Tryd.prog Tryd.f11.results.toList) (fun _ => stuckK) = fun s h => S11_15 call (s.rd 0) (s.rd 4) h := Eq.trans (seq_t (by kernel_rfl) (TS11_14 call) rfl) (by funext s h; kernel_rfl)

noncomputable def S11_16 (call : CallF) (t0 : AV) (h : Heap) : Res :=
  opt2 (call 30 [t0, (.lit (.string ⟨⟨[45]⟩⟩))] h) fun t15 h1 =>
  opt (extractX t15 0) fun t16 =>
  opt (extractX t15 1) fun t17 =>
  S11_15 call t16 t17 h1

theorem TS11_16 (call : CallF) : (rk Tryd.prog call 74 (Code.snd c11)).1 (finK Tryd.prog Tryd.f11.results.toList) [] (finK Tryd.prog Tryd.f11.results.toList) (fun _ => stuckK) = fun s h => S11_16 call (s.rd 0) h := Eq.trans (seq_t (by kernel_rfl) (TS11_15 call) rfl) (by funext s h; kernel_rfl)

/-- hawser/num.Parse -/
noncomputable def F11 (call : CallF) (a0 : AV) (h : Heap) : Res :=
  S11_16 call a0 h

theorem TF11 (call : CallF) (a0 : AV) (h : Heap) : (rk Tryd.prog call 74 c11).1 (finK Tryd.prog Tryd.f11.results.toList) [] (finK Tryd.prog Tryd.f11.results.toList) (fun _ => stuckK) (argsTr gl 0 [a0]) h = F11 call a0 h := Eq.trans (congrFun (congrFun (seq_t (by kernel_rfl) (TS11_16 call) rfl) _) _) (by kernel_rfl)

noncomputable def N11 : FnF
  | call, [a0], h => F11 call a0 h
  | _, _, _ => none

theorem N11_ok : FnOk Tryd.prog gl 11 N11 := FnOk.of namesOk mixedOrders lowOk Tryd.func11 (by kernel_rfl) fun call args h r hF => by
  unfold N11 at hF
  split at hF
  · rw [← hF, ← TF11]; exact bodyK_at (by kernel_rfl) (by kernel_rfl) rfl rfl
  · cases hF

noncomputable def c12 : Code := codeOf Tryd.f12

noncomputable def S12_0 (call : CallF) (t5 : AV) (t8 : AV) (h : Heap) : Res :=
  opt2 (call 35 [t5, t8] h) fun t75 h1 =>
  opt (extractX t75 0) fun t76 =>
  opt (extractX t75 1) fun t77 =>
  some ((.tup [t76, t77]), h1)

theorem TS12_0 (call : CallF) : (rk Tryd.prog call 78 (Code.snd (Code.snd (Code.snd (Code.snd (Code.snd (Code.snd (Code.snd (Code.snd (Code.snd c12)))))))))).1 (finK Tryd.prog Tryd.f12.results.toList) [] (finK Tryd.prog Tryd.f12.results.toList) (fun _ => stuckK) = fun s h => S12_0 call (s.rd 5) (s.rd 8) h := by funext s h; kernel_rfl

noncomputable def S12_1 (call : CallF) (t5 : AV) (t6 : AV) (t8 : AV) (h : Heap) : Res :=
  opt (fastIndex t6 (.lit (.int .i64 0))) fun t69 =>
  opt (fastBin .eql t69 (.lit (.int .u8 45))) fun t70 =>
  test t70
  (opt (litUn Tryd.prog .neg t8) fun t72 =>
  S12_0 call t5 t72 h)
  (S12_0 call t5 t8 h)

theorem TS12_1 (call : CallF) : (rk Tryd.prog call 78 (Code.snd (Code.snd (Code.snd (Code.snd (Code.snd (Code.snd (Code.snd (Code.snd c12))))))))).1 (finK Tryd.prog Tryd.f12.results.toList) [] (finK Tryd.prog Tryd.f12.results.toList) (fun _ => stuckK) = fun s h => S12_1 call (s.rd 5) (s.rd 6) (s.rd 8) h := Eq.trans (seq_t (by kernel_rfl) (TS12_0 call) rfl) (by funext s h; kernel_rfl)

noncomputable def S12_2 (call : CallF) (t5 : AV) (t6 : AV) (t8 : AV) (t67 : AV) (h : Heap) : Res :=
  test t67
  (some ((.tup [(.lit (.complex .f64 0 0)), (.lit (.bool false))]), h))
  (S12_1 call t5 t6 t8 h)

theorem TS12_2 (call : CallF) : (rk Tryd.prog call 78 (Code.snd (Code.fst (Code.snd (Code.snd (Code.snd (Code.snd (Code.snd (Code.snd (Code.snd c12)))))))))).1 (fun s h => S12_1 call (s.rd 5) (s.rd 6) (s.rd 8) h) [] (finK Tryd.prog Tryd.f12.results.toList) (fun _ => stuckK) = fun s h => S12_2 call (s.rd 5) (s.rd 6) (s.rd 8) (s.rd 67) h := by funext s h; kernel_rfl

noncomputable def S12_3 (call : CallF) (t5 : AV) (t6 : AV) (t8 : AV) (t9 : AV) (t10 : AV) (h : Heap) : Res :=
  opt (notX t10) fun t63 =>
  test t63
  (S12_2 call t5 t6 t8 (.lit (.bool true)) h)
  (opt (fastBin .neq t9 (.lit (.string ⟨⟨[105]⟩⟩))) fun t66 =>
  S12_2 call t5 t6 t8 t66 h)

theorem TS12_3 (call : CallF) : (rk Tryd.prog call 78 (Code.snd (Code.snd (Code.snd (Code.snd (Code.snd (Code.snd (Code.snd c12)))))))).1 (finK Tryd.prog Tryd.f12.results.toList) [] (finK Tryd.prog Tryd.f12.results.toList) (fun _ => stuckK) = fun s h => S12_3 call (s.rd 5) (s.rd 6) (s.rd 8) (s.rd 9) (s.rd 10) h := Eq.trans (seq_t (by kernel_rfl) (TS12_1 call) (seq_t (by kernel_rfl) (TS12_2 call) rfl)) (by funext s h; kernel_rfl)

noncomputable def S12_4 (call : CallF) (t5 : AV) (t6 : AV) (h : Heap) : Res :=
  opt (fastCut t6 (some (.lit (.int .i64 1))) none none) fun t57 =>
  opt2 (call 34 [t57] h) fun t58 h1 =>
  opt (extractX t58 0) fun t59 =>
  opt (extractX t58 1) fun t60 =>
  opt (extractX t58 2) fun t61 =>
  S12_3 call t5 t6 t59 t60 t61 h1

theorem TS12_4 (call : CallF) : (rk Tryd.prog call 78 (Code.snd (Code.snd (Code.snd (Code.snd (Code.snd (Code.snd c12))))))).1 (finK Tryd.prog Tryd.f12.results.toList) [] (finK Tryd.prog Tryd.f12.results.toList) (fun _ => stuckK) = fun s h => S12_4 call (s.rd 5) (s.rd 6) h := Eq.trans (seq_t (by kernel_rfl) (TS12_3 call) rfl) (by funext s h; kernel_rfl)

noncomputable def S12_5 (call : CallF) (t5 : AV) (t6 : AV) (t46 : AV) (h : Heap) : Res :=
  test t46
  (some ((.tup [(.lit (.complex .f64 0 0)), (.lit (.bool false))]), h))
  (S12_4 call t5 t6 h)

theorem TS12_5 (call : CallF) : (rk Tryd.prog call 78 (Code.snd (Code.els (Code.snd (Code.els (Code.snd (Code.els (Code.snd (Code.bd (Code.fst (Code.snd (Code.snd (Code.snd (Code.snd (Code.snd c12))))))))))))))).1 (fun s h => S12_4 call (s.rd 5) (s.rd 6) h) [(0, (fun s h => S12_4 call (s.rd 5) (s.rd 6) h))] (finK Tryd.prog Tryd.f12.results.toList) (fun _ => stuckK) = fun s h => S12_5 call (s.rd 5) (s.rd 6) (s.rd 46) h := by funext s h; kernel_rfl

noncomputable def S12_6 (call : CallF) (t5 : AV) (t6 : AV) (h : Heap) : Res :=
  opt (fastIndex t6 (.lit (.int .i64 0))) fun t48 =>
  opt (fastBin .neq t48 (.lit (.int .u8 43))) fun t49 =>
  test t49
  (opt (fastIndex t6 (.lit (.int .i64 0))) fun t52 =>
  opt (fastBin .neq t52 (.lit (.int .u8 45))) fun t53 =>
  S12_5 call t5 t6 t53 h)
  (S12_5 call t5 t6 (.lit (.bool false)) h)

theorem TS12_6 (call : CallF) : (rk Tryd.prog call 78 (Code.els (Code.snd (Code.els (Code.snd (Code.els (Code.snd (Code.bd (Code.fst (Code.snd (Code.snd (Code.snd (Code.snd (Code.snd c12)))))))))))))).1 (fun s h => S12_4 call (s.rd 5) (s.rd 6) h) [(0, (fun s h => S12_4 call (s.rd 5) (s.rd 6) h))] (finK Tryd.prog Tryd.f12.results.toList) (fun _ => stuckK) = fun s h => S12_6 call (s.rd 5) (s.rd 6) h := Eq.trans (seq_t (by kernel_rfl) (TS12_5 call) rfl) (by funext s h; kernel_rfl)

noncomputable def S12_7 (call : CallF) (t5 : AV) (t6 : AV) (t39 : AV) (h : Heap) : Res :=
  test t39
  (opt2 (call 35 [(.lit (.int .i64 0)), t5] h) fun t43 h1 =>
  opt (extractX t43 0) fun t44 =>
  opt (extractX t43 1) fun t45 =>
  some ((.tup [t44, t45]), h1))
  (S12_6 call t5 t6 h)

theorem TS12_7 (call : CallF) : (rk Tryd.prog call 78 (Code.snd (Code.els (Code.snd (Code.els (Code.snd (Code.bd (Code.fst (Code.snd (Code.snd (Code.snd (Code.snd (Code.snd c12))))))))))))).1 (fun s h => S12_4 call (s.rd 5) (s.rd 6) h) [(0, (fun s h => S12_4 call (s.rd 5) (s.rd 6) h))] (finK Tryd.prog Tryd.f12.results.toList) (fun _ => stuckK) = fun s h => S12_7 call (s.rd 5) (s.rd 6) (s.rd 39) h := Eq.trans (cond_t (by kernel_rfl) rfl (TS12_6 call)) (by funext s h; kernel_rfl)

noncomputable def S12_8 (call : CallF) (t5 : AV) (t6 : AV) (h : Heap) : Res :=
  opt (fastBin .eql t6 (.lit (.string ⟨⟨[105]⟩⟩))) fun t41 =>
  S12_7 call t5 t6 t41 h

theorem TS12_8 (call : CallF) : (rk Tryd.prog call 78 (Code.els (Code.snd (Code.els (Code.snd (Code.bd (Code.fst (Code.snd (Code.snd (Code.snd (Code.snd (Code.snd c12)))))))))))).1 (fun s h => S12_4 call (s.rd 5) (s.rd 6) h) [(0, (fun s h => S12_4 call (s.rd 5) (s.rd 6) h))] (finK Tryd.prog Tryd.f12.results.toList) (fun _ => stuckK) = fun s h => S12_8 call (s.rd 5) (s.rd 6) h := Eq.trans (seq_t (by kernel_rfl) (TS12_7 call) rfl) (by funext s h; kernel_rfl)

noncomputable def S12_9 (call : CallF) (t5 : AV) (t6 : AV) (t32 : AV) (h : Heap) : Res :=
  test t32
  (opt2 (call 35 [t5, (.lit (.int .i64 0))] h) fun t36 h1 =>
  opt (extractX t36 0) fun t37 =>
  opt (extractX t36 1) fun t38 =>
  some ((.tup [t37, t38]), h1))
  (S12_8 call t5 t6 h)

theorem TS12_9 (call : CallF) : (rk Tryd.prog call 78 (Code.snd (Code.els (Code.snd (Code.bd (Code.fst (Code.snd (Code.snd (Code.snd (Code.snd (Code.snd c12))))))))))).1 (fun s h => S12_4 call (s.rd 5) (s.rd 6) h) [(0, (fun s h => S12_4 call (s.rd 5) (s.rd 6) h))] (finK Tryd.prog Tryd.f12.results.toList) (fun _ => stuckK) = fun s h => S12_9 call (s.rd 5) (s.rd 6) (s.rd 32) h := Eq.trans (cond_t (by kernel_rfl) rfl (TS12_8 call)) (by funext s h; kernel_rfl)

noncomputable def S12_10 (call : CallF) (t5 : AV) (t6 : AV) (h : Heap) : Res :=
  opt (fastBin .eql t6 (.lit (.string ⟨⟨[]⟩⟩))) fun t34 =>
  S12_9 call t5 t6 t34 h

theorem TS12_10 (call : CallF) : (rk Tryd.prog call 78 (Code.els (Code.snd (Code.bd (Code.fst (Code.snd (Code.snd (Code.snd (Code.snd (Code.snd c12)))))))))).1 (fun s h => S12_4 call (s.rd 5) (s.rd 6) h) [(0, (fun s h => S12_4 call (s.rd 5) (s.rd 6) h))] (finK Tryd.prog Tryd.f12.results.toList) (fun _ => stuckK) = fun s h => S12_10 call (s.rd 5) (s.rd 6) h := Eq.trans (seq_t (by kernel_rfl) (TS12_9 call) rfl) (by funext s h; kernel_rfl)

noncomputable def S12_11 (call : CallF) (t5 : AV) (t6 : AV) (t29 : AV) (h : Heap) : Res :=
  test t29
  (some ((.tup [(.lit (.complex .f64 0 0)), (.lit (.bool false))]), h))
  (S12_10 call t5 t6 h)

theorem TS12_11 (call : CallF) : (rk Tryd.prog call 78 (Code.snd (Code.bd (Code.fst (Code.snd (Code.snd (Code.snd (Code.snd (Code.snd c12))))))))).1 (fun s h => S12_4 call (s.rd 5) (s.rd 6) h) [(0, (fun s h => S12_4 call (s.rd 5) (s.rd 6) h))] (finK Tryd.prog Tryd.f12.results.toList) (fun _ => stuckK) = fun s h => S12_11 call (s.rd 5) (s.rd 6) (s.rd 29) h := Eq.trans (cond_t (by kernel_rfl) rfl (TS12_10 call)) (by funext s h; kernel_rfl)

noncomputable def S12_12 (call : CallF) (t5 : AV) (t6 : AV) (t7 : AV) (h : Heap) : Res :=
  opt (notX t7) fun t31 =>
  S12_11 call t5 t6 t31 h

theorem TS12_12 (call : CallF) : (rk Tryd.prog call 78 (Code.snd (Code.snd (Code.snd (Code.snd (Code.snd c12)))))).1 (finK Tryd.prog Tryd.f12.results.toList) [] (finK Tryd.prog Tryd.f12.results.toList) (fun _ => stuckK) = fun s h => S12_12 call (s.rd 5) (s.rd 6) (s.rd 7) h := Eq.trans (seq_t (by kernel_rfl) (TS12_4 call) (block_t (id := 0) (by kernel_rfl) (seq_t (by kernel_rfl) (TS12_11 call) rfl))) (by funext s h; kernel_rfl)

noncomputable def S12_13 (call : CallF) (t4 : AV) (t5 : AV) (t6 : AV) (t7 : AV) (h : Heap) : Res :=
  opt (fastBin .mul t5 t4) fun t28 =>
  S12_12 call t28 t6 t7 h

theorem TS12_13 (call : CallF) : (rk Tryd.prog call 78 (Code.snd (Code.snd (Code.snd (Code.snd c12))))).1 (finK Tryd.prog Tryd.f12.results.toList) [] (finK Tryd.prog Tryd.f12.results.toList) (fun _ => stuckK) = fun s h => S12_13 call (s.rd 4) (s.rd 5) (s.rd 6) (s.rd 7) h := Eq.trans (seq_t (by kernel_rfl) (TS12_12 call) rfl) (by funext s h; kernel_rfl)

noncomputable def S12_14 (call : CallF) (t0 : AV) (t4 : AV) (h : Heap) : Res :=
  opt2 (call 34 [t0] h) fun t22 h1 =>
  opt (extractX t22 0) fun t23 =>
  opt (extractX t22 1) fun t24 =>
  opt (extractX t22 2) fun t25 =>
  S12_13 call t4 t23 t24 t25 h1

theorem TS12_14 (call : CallF) : (rk Tryd.prog call 78 (Code.snd (Code.snd (Code.snd c12)))).1 (finK Tryd.prog Tryd.f12.results.toList) [] (finK Tryd.prog Tryd.f12.results.toList) (fun _ => stuckK) = fun s h => S12_14 call (s.rd 0) (s.rd 4) h := Eq.trans (seq_t (by kernel_rfl) (TS12_13 call) rfl) (by funext s h; kernel_rfl)

noncomputable def S12_15 (call : CallF) (t0 : AV) (t4 : AV) (t17 : AV) (h : Heap) : Res :=
  test t17
  (opt (fastCut t0 (some (.lit (.int .i64 1))) none none) fun t19 =>
  S12_14 call t19 (.lit (.int .i64 (-1))) h)
  (S12_14 call t0 t4 h)

theorem TS12_15 (call : CallF) : (rk Tryd.prog call 78 (Code.snd (Code.fst (Code.snd (Code.snd c12))))).1 (fun s h => S12_14 call (s.rd 0) (s.rd 4) h) [] (finK Tryd.prog Tryd.f12.results.toList) (fun _ => stuckK) = fun s h => S12_15 call (s.rd 0) (s.rd 4) (s.rd 17) h := by funext s h; kernel_rfl

noncomputable def S12_16 (call : CallF) (t0 : AV) (t4 : AV) (h : Heap) : Res :=
  opt (fastBin .neq t0 (.lit (.string ⟨⟨[]⟩⟩))) fun t12 =>
  test t12
  (opt (fastIndex t0 (.lit (.int .i64 0))) fun t15 =>
  opt (fastBin .eql t15 (.lit (.int .u8 45))) fun t16 =>
  S12_15 call t0 t4 t16 h)
  (S12_15 call t0 t4 (.lit (.bool false)) h)

theorem TS12_16 (call : CallF) : (rk Tryd.prog call 78 (Code.snd (Code.snd c12))).1 (finK Tryd.prog Tryd.f12.results.toList) [] (finK Tryd.prog Tryd.f12.results.toList) (fun _ => stuckK) = fun s h => S12_16 call (s.rd 0) (s.rd 4) h := Eq.trans (seq_t (by kernel_rfl) (TS12_14 call) (seq_t (by kernel_rfl) (TS12_15 call) rfl)) (by funext s h; kernel_rfl)

noncomputable def S12_17 (call : CallF) (t0 : AV) (h : Heap) : Res :=
  S12_16 call t0 (.lit (.int .i64 1)) h

theorem TS12_17 (call : CallF) : (rk Tryd.prog call 78 (Code.snd c12)).1 (finK Tryd.prog Tryd.f12.results.toList) [] (finK Tryd.prog Tryd.f12.results.toList) (fun _ => stuckK) = fun s h => S12_17 call (s.rd 0) h := Eq.trans (seq_t (by kernel_rfl) (TS12_16 call) rfl) (by funext s h; kernel_rfl)

/-- hawser/hawserref2.Parse -/
noncomputable def F12 (call : CallF) (a0 : AV) (h : Heap) : Res :=
  S12_17 call a0 h

theorem TF12 (call : CallF) (a0 : AV) (h : Heap) : (rk Tryd.prog call 78 c12).1 (finK Tryd.prog Tryd.f12.results.toList) [] (finK Tryd.prog Tryd.f12.results.toList) (fun _ => stuckK) (argsTr gl 0 [a0]) h = F12 call a0 h := Eq.trans (congrFun (congrFun (seq_t (by kernel_rfl) (TS12_17 call) rfl) _) _) (by kernel_rfl)

noncomputable def N12 : FnF
  | call, [a0], h => F12 call a0 h
  | _, _, _ => none

theorem N12_ok : FnOk Tryd.prog gl 12 N12 := FnOk.of namesOk mixedOrders lowOk Tryd.func12 (by kernel_rfl) fun call args h r hF => by
  unfold N12 at hF
  split at hF
  · rw [← hF, ← TF12]; exact bodyK_at (by kernel_rfl) (by kernel_rfl) rfl rfl
  · cases hF

noncomputable def c13 : Code := codeOf Tryd.f13

/-- hawser/hawserlaw2.known -/
noncomputable def F13 (call : CallF) (h : Heap) : Res :=
  opt2 (call 19 [(.lit (.int .i64 1)), (.lit (.int .i64 2))] h) fun t8 h1 =>
  opt2 (call 19 [(.lit (.int .i64 3)), (.lit (.int .i64 (-1)))] h1) fun t9 h2 =>
  opt2 (call 18 [(.lit (.string ⟨⟨[109, 117, 108]⟩⟩)), t8, t9] h2) fun t10 h3 =>
  opt (extractX t10 0) fun t11 =>
  opt (extractX t10 1) fun t12 =>
  opt2 (call 19 [(.lit (.int .i64 1048576)), (.lit (.int .i64 0))] h3) fun t14 h4 =>
  opt2 (call 18 [(.lit (.string ⟨⟨[97, 100, 100]⟩⟩)), t14, (.lit (.complex .f64 4607182418800017408 0))] h4) fun t15 h5 =>
  opt (extractX t15 0) fun t16 =>
  opt (extractX t15 1) fun t17 =>
  opt2 (call 11 [(.lit (.string ⟨⟨[50, 105]⟩⟩))] h5) fun t19 h6 =>
  opt (extractX t19 0) fun t20 =>
  opt (extractX t19 1) fun t21 =>
  opt2 (call 19 [(.lit (.int .i64 5)), (.lit (.int .i64 5))] h6) fun t23 h7 =>
  opt (binX Tryd.prog .none .eql 22 t11 t23) fun t24 =>
  test t24
  (opt (fastBin .eql t12 (.lit (.int .i64 0))) fun t27 =>
  test t27
  (opt (fastBin .eql t17 (.lit (.int .i64 44))) fun t31 =>
  test t31
  (opt2 (call 19 [(.lit (.int .i64 0)), (.lit (.int .i64 (-3)))] h7) fun t34 h8 =>
  opt2 (call 15 [t34] h8) fun t35 h9 =>
  opt (fastBin .eql t35 (.lit (.string ⟨⟨[45, 51, 105]⟩⟩))) fun t36 =>
  test t36
  (opt2 (call 19 [(.lit (.int .i64 0)), (.lit (.int .i64 2))] h9) fun t40 h10 =>
  opt (binX Tryd.prog .none .eql 22 t20 t40) fun t41 =>
  test t41
  (some (t21, h10))
  (some ((.lit (.bool false)), h10)))
  (some ((.lit (.bool false)), h9)))
  (some ((.lit (.bool false)), h7)))
  (some ((.lit (.bool false)), h7)))
  (some ((.lit (.bool false)), h7))

theorem TF13 (call : CallF) (h : Heap) : (rk Tryd.prog call 46 c13).1 (finK Tryd.prog Tryd.f13.results.toList) [] (finK Tryd.prog Tryd.f13.results.toList) (fun _ => stuckK) (argsTr gl 0 []) h = F13 call h := by kernel_rfl

noncomputable def N13 : FnF
  | call, [], h => F13 call h
  | _, _, _ => none

theorem N13_ok : FnOk Tryd.prog gl 13 N13 := FnOk.of namesOk mixedOrders lowOk Tryd.func13 (by kernel_rfl) fun call args h r hF => by
  unfold N13 at hF
  split at hF
  · rw [← hF, ← TF13]; exact bodyK_at (by kernel_rfl) (by kernel_rfl) rfl rfl
  · cases hF

noncomputable def c14 : Code := codeOf Tryd.f14

/-- hawser/hawserlaw2.near -/
noncomputable def F14 (call : CallF) (a0 : AV) (a1 : AV) (h : Heap) : Res :=
  opt2 (call 17 [a0, (.lit (.int .i64 0)), (.lit (.int .i64 2097156))] h) fun t6 h1 =>
  opt (fastBin .sub t6 (.lit (.int .i64 1048576))) fun t7 =>
  opt (fastBin .sub t7 (.lit (.int .i64 2))) fun t8 =>
  opt2 (call 17 [a1, (.lit (.int .i64 0)), (.lit (.int .i64 2097156))] h1) fun t10 h2 =>
  opt (fastBin .sub t10 (.lit (.int .i64 1048576))) fun t11 =>
  opt (fastBin .sub t11 (.lit (.int .i64 2))) fun t12 =>
  opt2 (call 19 [t8, t12] h2) fun t13 h3 =>
  some (t13, h3)

theorem TF14 (call : CallF) (a0 : AV) (a1 : AV) (h : Heap) : (rk Tryd.prog call 14 c14).1 (finK Tryd.prog Tryd.f14.results.toList) [] (finK Tryd.prog Tryd.f14.results.toList) (fun _ => stuckK) (argsTr gl 0 [a0, a1]) h = F14 call a0 a1 h := by kernel_rfl

noncomputable def N14 : FnF
  | call, [a0, a1], h => F14 call a0 a1 h
  | _, _, _ => none

theorem N14_ok : FnOk Tryd.prog gl 14 N14 := FnOk.of namesOk mixedOrders lowOk Tryd.func14 (by kernel_rfl) fun call args h r hF => by
  unfold N14 at hF
  split at hF
  · rw [← hF, ← TF14]; exact bodyK_at (by kernel_rfl) (by kernel_rfl) rfl rfl
  · cases hF

noncomputable def c15 : Code := codeOf Tryd.f15

/-- hawser/num.Text -/
noncomputable def F15 (call : CallF) (a0 : AV) (h : Heap) : Res :=
  opt2 (call 16 [a0] h) fun t6 h1 =>
  opt (notX t6) fun t7 =>
  test t7
  (some ((.lit (.string ⟨⟨[]⟩⟩)), h1))
  (opt (litBi Tryd.prog .real [22] 40 [false] [a0]) fun t9 =>
  opt (convX Tryd.prog 40 3 t9 h1) fun t10 =>
  opt2 (call 36 [t10] h1) fun t11 h2 =>
  opt (litBi Tryd.prog .imag [22] 40 [false] [a0]) fun t13 =>
  opt (convX Tryd.prog 40 3 t13 h2) fun t14 =>
  opt2 (call 36 [t14] h2) fun t15 h3 =>
  opt (fastBin .add t15 (.lit (.string ⟨⟨[105]⟩⟩))) fun t16 =>
  opt (litBi Tryd.prog .imag [22] 40 [false] [a0]) fun t19 =>
  opt (binX Tryd.prog .none .eql 40 t19 (.lit (.float .f64 0))) fun t20 =>
  test t20
  (some (t11, h3))
  (opt (litBi Tryd.prog .real [22] 40 [false] [a0]) fun t24 =>
  opt (binX Tryd.prog .none .eql 40 t24 (.lit (.float .f64 0))) fun t25 =>
  test t25
  (some (t16, h3))
  (opt (litBi Tryd.prog .imag [22] 40 [false] [a0]) fun t29 =>
  opt (binX Tryd.prog .none .gtr 40 t29 (.lit (.float .f64 0))) fun t30 =>
  test t30
  (opt (fastBin .add t11 (.lit (.string ⟨⟨[43]⟩⟩))) fun t32 =>
  opt (fastBin .add t32 t16) fun t34 =>
  some (t34, h3))
  (opt (fastBin .add t11 t16) fun t37 =>
  some (t37, h3)))))

theorem TF15 (call : CallF) (a0 : AV) (h : Heap) : (rk Tryd.prog call 38 c15).1 (finK Tryd.prog Tryd.f15.results.toList) [] (finK Tryd.prog Tryd.f15.results.toList) (fun _ => stuckK) (argsTr gl 0 [a0]) h = F15 call a0 h := by kernel_rfl

noncomputable def N15 : FnF
  | call, [a0], h => F15 call a0 h
  | _, _, _ => none

theorem N15_ok : FnOk Tryd.prog gl 15 N15 := FnOk.of namesOk mixedOrders lowOk Tryd.func15 (by kernel_rfl) fun call args h r hF => by
  unfold N15 at hF
  split at hF
  · rw [← hF, ← TF15]; exact bodyK_at (by kernel_rfl) (by kernel_rfl) rfl rfl
  · cases hF

noncomputable def c16 : Code := codeOf Tryd.f16

/-- hawser/num.Right -/
noncomputable def F16 (call : CallF) (a0 : AV) (h : Heap) : Res :=
  opt (litBi Tryd.prog .real [22] 40 [false] [a0]) fun t4 =>
  opt2 (call 37 [t4] h) fun t5 h1 =>
  test t5
  (opt (litBi Tryd.prog .imag [22] 40 [false] [a0]) fun t8 =>
  opt2 (call 37 [t8] h1) fun t9 h2 =>
  some (t9, h2))
  (some ((.lit (.bool false)), h1))

theorem TF16 (call : CallF) (a0 : AV) (h : Heap) : (rk Tryd.prog call 11 c16).1 (finK Tryd.prog Tryd.f16.results.toList) [] (finK Tryd.prog Tryd.f16.results.toList) (fun _ => stuckK) (argsTr gl 0 [a0]) h = F16 call a0 h := by kernel_rfl

noncomputable def N16 : FnF
  | call, [a0], h => F16 call a0 h
  | _, _, _ => none

theorem N16_ok : FnOk Tryd.prog gl 16 N16 := FnOk.of namesOk mixedOrders lowOk Tryd.func16 (by kernel_rfl) fun call args h r hF => by
  unfold N16 at hF
  split at hF
  · rw [← hF, ← TF16]; exact bodyK_at (by kernel_rfl) (by kernel_rfl) rfl rfl
  · cases hF

noncomputable def c17 : Code := codeOf Tryd.f17

noncomputable def S17_0 (call : CallF) (t0 : AV) (t1 : AV) (h : Heap) : Res :=
  opt (fastBin .add t1 t0) fun t23 =>
  some (t23, h)

theorem TS17_0 (call : CallF) : (rk Tryd.prog call 24 (Code.snd (Code.snd (Code.snd c17)))).1 (finK Tryd.prog Tryd.f17.results.toList) [] (finK Tryd.prog Tryd.f17.results.toList) (fun _ => stuckK) = fun s h => S17_0 call (s.rd 0) (s.rd 1) h := by funext s h; kernel_rfl

noncomputable def S17_1 (call : CallF) (t0 : AV) (t1 : AV) (t2 : AV) (h : Heap) : Res :=
  opt (fastBin .lss t0 (.lit (.int .i64 0))) fun t14 =>
  test t14
  (opt (fastBin .add t0 t2) fun t17 =>
  opt (fastBin .sub t17 t1) fun t19 =>
  opt (fastBin .add t19 (.lit (.int .i64 1))) fun t20 =>
  S17_0 call t20 t1 h)
  (S17_0 call t0 t1 h)

theorem TS17_1 (call : CallF) : (rk Tryd.prog call 24 (Code.snd (Code.snd c17))).1 (finK Tryd.prog Tryd.f17.results.toList) [] (finK Tryd.prog Tryd.f17.results.toList) (fun _ => stuckK) = fun s h => S17_1 call (s.rd 0) (s.rd 1) (s.rd 2) h := Eq.trans (seq_t (by kernel_rfl) (TS17_0 call) rfl) (by funext s h; kernel_rfl)

noncomputable def S17_2 (call : CallF) (t0 : AV) (t1 : AV) (t2 : AV) (h : Heap) : Res :=
  opt (fastBin .sub t2 t1) fun t10 =>
  opt (fastBin .add t10 (.lit (.int .i64 1))) fun t11 =>
  opt (binX Tryd.prog .none .rem 3 t0 t11) fun t12 =>
  S17_1 call t12 t1 t2 h

theorem TS17_2 (call : CallF) : (rk Tryd.prog call 24 (Code.snd c17)).1 (finK Tryd.prog Tryd.f17.results.toList) [] (finK Tryd.prog Tryd.f17.results.toList) (fun _ => stuckK) = fun s h => S17_2 call (s.rd 0) (s.rd 1) (s.rd 2) h := Eq.trans (seq_t (by kernel_rfl) (TS17_1 call) rfl) (by funext s h; kernel_rfl)

/-- hawser/hawserbook.Within -/
noncomputable def F17 (call : CallF) (a0 : AV) (a1 : AV) (a2 : AV) (h : Heap) : Res :=
  S17_2 call a0 a1 a2 h

theorem TF17 (call : CallF) (a0 : AV) (a1 : AV) (a2 : AV) (h : Heap) : (rk Tryd.prog call 24 c17).1 (finK Tryd.prog Tryd.f17.results.toList) [] (finK Tryd.prog Tryd.f17.results.toList) (fun _ => stuckK) (argsTr gl 0 [a0, a1, a2]) h = F17 call a0 a1 a2 h := Eq.trans (congrFun (congrFun (seq_t (by kernel_rfl) (TS17_2 call) rfl) _) _) (by kernel_rfl)

noncomputable def N17 : FnF
  | call, [a0, a1, a2], h => F17 call a0 a1 a2 h
  | _, _, _ => none

theorem N17_ok : FnOk Tryd.prog gl 17 N17 := FnOk.of namesOk mixedOrders lowOk Tryd.func17 (by kernel_rfl) fun call args h r hF => by
  unfold N17 at hF
  split at hF
  · rw [← hF, ← TF17]; exact bodyK_at (by kernel_rfl) (by kernel_rfl) rfl rfl
  · cases hF

noncomputable def c18 : Code := codeOf Tryd.f18

noncomputable def S18_0 (call : CallF) (t8 : AV) (h : Heap) : Res :=
  opt2 (call 16 [t8] h) fun t34 h1 =>
  opt (notX t34) fun t35 =>
  test t35
  (some ((.tup [(.lit (.complex .f64 0 0)), (.lit (.int .i64 44))]), h1))
  (opt2 (call 33 [t8] h1) fun t37 h2 =>
  some ((.tup [t37, (.lit (.int .i64 0))]), h2))

theorem TS18_0 (call : CallF) : (rk Tryd.prog call 38 (Code.snd (Code.snd (Code.snd (Code.snd c18))))).1 (finK Tryd.prog Tryd.f18.results.toList) [] (finK Tryd.prog Tryd.f18.results.toList) (fun _ => stuckK) = fun s h => S18_0 call (s.rd 8) h := by funext s h; kernel_rfl

noncomputable def S18_1 (call : CallF) (t0 : AV) (t1 : AV) (t2 : AV) (h : Heap) : Res :=
  opt (fastBin .eql t0 (.lit (.string ⟨⟨[97, 100, 100]⟩⟩))) fun t19 =>
  test t19
  (opt (binX Tryd.prog .none .add 22 t1 t2) fun t22 =>
  S18_0 call t22 h)
  (opt (fastBin .eql t0 (.lit (.string ⟨⟨[115, 117, 98]⟩⟩))) fun t24 =>
  test t24
  (opt (binX Tryd.prog .none .sub 22 t1 t2) fun t27 =>
  S18_0 call t27 h)
  (opt (fastBin .eql t0 (.lit (.string ⟨⟨[109, 117, 108]⟩⟩))) fun t29 =>
  test t29
  (opt (binX Tryd.prog .none .mul 22 t1 t2) fun t32 =>
  S18_0 call t32 h)
  (some ((.tup [(.lit (.complex .f64 0 0)), (.lit (.int .i64 1))]), h))))

theorem TS18_1 (call : CallF) : (rk Tryd.prog call 38 (Code.snd (Code.snd (Code.snd c18)))).1 (finK Tryd.prog Tryd.f18.results.toList) [] (finK Tryd.prog Tryd.f18.results.toList) (fun _ => stuckK) = fun s h => S18_1 call (s.rd 0) (s.rd 1) (s.rd 2) h := Eq.trans (seq_t (by kernel_rfl) (TS18_0 call) rfl) (by funext s h; kernel_rfl)

noncomputable def S18_2 (call : CallF) (t0 : AV) (t1 : AV) (t2 : AV) (h : Heap) : Res :=
  S18_1 call t0 t1 t2 h

theorem TS18_2 (call : CallF) : (rk Tryd.prog call 38 (Code.snd (Code.snd c18))).1 (finK Tryd.prog Tryd.f18.results.toList) [] (finK Tryd.prog Tryd.f18.results.toList) (fun _ => stuckK) = fun s h => S18_2 call (s.rd 0) (s.rd 1) (s.rd 2) h := Eq.trans (seq_t (by kernel_rfl) (TS18_1 call) rfl) (by funext s h; kernel_rfl)

noncomputable def S18_3 (call : CallF) (t0 : AV) (t1 : AV) (t2 : AV) (t16 : AV) (h : Heap) : Res :=
  test t16
  (some ((.tup [(.lit (.complex .f64 0 0)), (.lit (.int .i64 1))]), h))
  (S18_2 call t0 t1 t2 h)

theorem TS18_3 (call : CallF) : (rk Tryd.prog call 38 (Code.snd (Code.fst (Code.snd c18)))).1 (fun s h => S18_2 call (s.rd 0) (s.rd 1) (s.rd 2) h) [] (finK Tryd.prog Tryd.f18.results.toList) (fun _ => stuckK) = fun s h => S18_3 call (s.rd 0) (s.rd 1) (s.rd 2) (s.rd 16) h := by funext s h; kernel_rfl

noncomputable def S18_4 (call : CallF) (t0 : AV) (t1 : AV) (t2 : AV) (h : Heap) : Res :=
  opt2 (call 16 [t1] h) fun t10 h1 =>
  opt (notX t10) fun t11 =>
  test t11
  (S18_3 call t0 t1 t2 (.lit (.bool true)) h1)
  (opt2 (call 16 [t2] h1) fun t14 h2 =>
  opt (notX t14) fun t15 =>
  S18_3 call t0 t1 t2 t15 h2)

theorem TS18_4 (call : CallF) : (rk Tryd.prog call 38 (Code.snd c18)).1 (finK Tryd.prog Tryd.f18.results.toList) [] (finK Tryd.prog Tryd.f18.results.toList) (fun _ => stuckK) = fun s h => S18_4 call (s.rd 0) (s.rd 1) (s.rd 2) h := Eq.trans (seq_t (by kernel_rfl) (TS18_2 call) (seq_t (by kernel_rfl) (TS18_3 call) rfl)) (by funext s h; kernel_rfl)

/-- hawser/num.Two -/
noncomputable def F18 (call : CallF) (a0 : AV) (a1 : AV) (a2 : AV) (h : Heap) : Res :=
  S18_4 call a0 a1 a2 h

theorem TF18 (call : CallF) (a0 : AV) (a1 : AV) (a2 : AV) (h : Heap) : (rk Tryd.prog call 38 c18).1 (finK Tryd.prog Tryd.f18.results.toList) [] (finK Tryd.prog Tryd.f18.results.toList) (fun _ => stuckK) (argsTr gl 0 [a0, a1, a2]) h = F18 call a0 a1 a2 h := Eq.trans (congrFun (congrFun (seq_t (by kernel_rfl) (TS18_4 call) rfl) _) _) (by kernel_rfl)

noncomputable def N18 : FnF
  | call, [a0, a1, a2], h => F18 call a0 a1 a2 h
  | _, _, _ => none

theorem N18_ok : FnOk Tryd.prog gl 18 N18 := FnOk.of namesOk mixedOrders lowOk Tryd.func18 (by kernel_rfl) fun call args h r hF => by
  unfold N18 at hF
  split at hF
  · rw [← hF, ← TF18]; exact bodyK_at (by kernel_rfl) (by kernel_rfl) rfl rfl
  · cases hF

noncomputable def c19 : Code := codeOf Tryd.f19

/-- hawser/hawserlaw2.of -/
noncomputable def F19 (call : CallF) (a0 : AV) (a1 : AV) (h : Heap) : Res :=
  opt (convX Tryd.prog 3 40 a0 h) fun t6 =>
  opt (convX Tryd.prog 3 40 a1 h) fun t8 =>
  opt (litBi Tryd.prog .complex [40, 40] 22 [false, false] [t6, t8]) fun t9 =>
  some (t9, h)

theorem TF19 (call : CallF) (a0 : AV) (a1 : AV) (h : Heap) : (rk Tryd.prog call 10 c19).1 (finK Tryd.prog Tryd.f19.results.toList) [] (finK Tryd.prog Tryd.f19.results.toList) (fun _ => stuckK) (argsTr gl 0 [a0, a1]) h = F19 call a0 a1 h := by kernel_rfl

noncomputable def N19 : FnF
  | call, [a0, a1], h => F19 call a0 a1 h
  | _, _, _ => none

theorem N19_ok : FnOk Tryd.prog gl 19 N19 := FnOk.of namesOk mixedOrders lowOk Tryd.func19 (by kernel_rfl) fun call args h r hF => by
  unfold N19 at hF
  split at hF
  · rw [← hF, ← TF19]; exact bodyK_at (by kernel_rfl) (by kernel_rfl) rfl rfl
  · cases hF

noncomputable def c20 : Code := codeOf Tryd.f20

noncomputable def S20_0 (call : CallF) (t0 : AV) (t1 : AV) (h : Heap) : Res :=
  opt (litBi Tryd.prog .real [22] 40 [false] [t0]) fun t14 =>
  opt (litBi Tryd.prog .real [22] 40 [false] [t1]) fun t16 =>
  opt (binX Tryd.prog .none .lss 40 t14 t16) fun t17 =>
  test t17
  (some ((.lit (.bool true)), h))
  (opt (litBi Tryd.prog .real [22] 40 [false] [t0]) fun t20 =>
  opt (litBi Tryd.prog .real [22] 40 [false] [t1]) fun t22 =>
  opt (binX Tryd.prog .none .eql 40 t20 t22) fun t23 =>
  test t23
  (opt (litBi Tryd.prog .imag [22] 40 [false] [t0]) fun t26 =>
  opt (litBi Tryd.prog .imag [22] 40 [false] [t1]) fun t28 =>
  opt (binX Tryd.prog .none .lss 40 t26 t28) fun t29 =>
  some (t29, h))
  (some ((.lit (.bool false)), h)))

theorem TS20_0 (call : CallF) : (rk Tryd.prog call 32 (Code.snd (Code.snd c20))).1 (finK Tryd.prog Tryd.f20.results.toList) [] (finK Tryd.prog Tryd.f20.results.toList) (fun _ => stuckK) = fun s h => S20_0 call (s.rd 0) (s.rd 1) h := by funext s h; kernel_rfl

noncomputable def S20_1 (call : CallF) (t0 : AV) (t1 : AV) (h : Heap) : Res :=
  opt2 (call 16 [t0] h) fun t6 h1 =>
  opt (notX t6) fun t7 =>
  test t7
  (some ((.lit (.bool false)), h1))
  (opt2 (call 16 [t1] h1) fun t10 h2 =>
  opt (notX t10) fun t11 =>
  test t11
  (some ((.lit (.bool false)), h2))
  (S20_0 call t0 t1 h2))

theorem TS20_1 (call : CallF) : (rk Tryd.prog call 32 (Code.snd c20)).1 (finK Tryd.prog Tryd.f20.results.toList) [] (finK Tryd.prog Tryd.f20.results.toList) (fun _ => stuckK) = fun s h => S20_1 call (s.rd 0) (s.rd 1) h := Eq.trans (seq_t (by kernel_rfl) (TS20_0 call) rfl) (by funext s h; kernel_rfl)

/-- hawser/num.Less -/
noncomputable def F20 (call : CallF) (a0 : AV) (a1 : AV) (h : Heap) : Res :=
  S20_1 call a0 a1 h

theorem TF20 (call : CallF) (a0 : AV) (a1 : AV) (h : Heap) : (rk Tryd.prog call 32 c20).1 (finK Tryd.prog Tryd.f20.results.toList) [] (finK Tryd.prog Tryd.f20.results.toList) (fun _ => stuckK) (argsTr gl 0 [a0, a1]) h = F20 call a0 a1 h := Eq.trans (congrFun (congrFun (seq_t (by kernel_rfl) (TS20_1 call) rfl) _) _) (by kernel_rfl)

noncomputable def N20 : FnF
  | call, [a0, a1], h => F20 call a0 a1 h
  | _, _, _ => none

theorem N20_ok : FnOk Tryd.prog gl 20 N20 := FnOk.of namesOk mixedOrders lowOk Tryd.func20 (by kernel_rfl) fun call args h r hF => by
  unfold N20 at hF
  split at hF
  · rw [← hF, ← TF20]; exact bodyK_at (by kernel_rfl) (by kernel_rfl) rfl rfl
  · cases hF

noncomputable def c21 : Code := codeOf Tryd.f21

/-- hawser/num.One -/
noncomputable def F21 (call : CallF) (a0 : AV) (a1 : AV) (h : Heap) : Res :=
  opt2 (call 16 [a1] h) fun t7 h1 =>
  opt (notX t7) fun t8 =>
  test t8
  (some ((.tup [(.lit (.complex .f64 0 0)), (.lit (.int .i64 1))]), h1))
  (opt (fastBin .eql a0 (.lit (.string ⟨⟨[110, 101, 103]⟩⟩))) fun t11 =>
  test t11
  (opt (litUn Tryd.prog .neg a1) fun t13 =>
  opt2 (call 33 [t13] h1) fun t14 h2 =>
  some ((.tup [t14, (.lit (.int .i64 0))]), h2))
  (opt (fastBin .eql a0 (.lit (.string ⟨⟨[99, 111, 110, 106]⟩⟩))) fun t16 =>
  test t16
  (opt (litBi Tryd.prog .real [22] 40 [false] [a1]) fun t18 =>
  opt (litBi Tryd.prog .imag [22] 40 [false] [a1]) fun t20 =>
  opt (litUn Tryd.prog .neg t20) fun t21 =>
  opt (litBi Tryd.prog .complex [40, 40] 22 [false, false] [t18, t21]) fun t22 =>
  opt2 (call 33 [t22] h1) fun t23 h3 =>
  some ((.tup [t23, (.lit (.int .i64 0))]), h3))
  (opt (fastBin .eql a0 (.lit (.string ⟨⟨[114, 101]⟩⟩))) fun t25 =>
  test t25
  (opt (litBi Tryd.prog .real [22] 40 [false] [a1]) fun t27 =>
  opt (litBi Tryd.prog .complex [40, 40] 22 [false, true] [t27, (.lit (.float .f64 0))]) fun t28 =>
  opt2 (call 33 [t28] h1) fun t29 h4 =>
  some ((.tup [t29, (.lit (.int .i64 0))]), h4))
  (opt (fastBin .eql a0 (.lit (.string ⟨⟨[105, 109]⟩⟩))) fun t31 =>
  test t31
  (opt (litBi Tryd.prog .imag [22] 40 [false] [a1]) fun t33 =>
  opt (litBi Tryd.prog .complex [40, 40] 22 [false, true] [t33, (.lit (.float .f64 0))]) fun t34 =>
  opt2 (call 33 [t34] h1) fun t35 h5 =>
  some ((.tup [t35, (.lit (.int .i64 0))]), h5))
  (some ((.tup [(.lit (.complex .f64 0 0)), (.lit (.int .i64 1))]), h1))))))

theorem TF21 (call : CallF) (a0 : AV) (a1 : AV) (h : Heap) : (rk Tryd.prog call 36 c21).1 (finK Tryd.prog Tryd.f21.results.toList) [] (finK Tryd.prog Tryd.f21.results.toList) (fun _ => stuckK) (argsTr gl 0 [a0, a1]) h = F21 call a0 a1 h := by kernel_rfl

noncomputable def N21 : FnF
  | call, [a0, a1], h => F21 call a0 a1 h
  | _, _, _ => none

theorem N21_ok : FnOk Tryd.prog gl 21 N21 := FnOk.of namesOk mixedOrders lowOk Tryd.func21 (by kernel_rfl) fun call args h r hF => by
  unfold N21 at hF
  split at hF
  · rw [← hF, ← TF21]; exact bodyK_at (by kernel_rfl) (by kernel_rfl) rfl rfl
  · cases hF

noncomputable def c22 : Code := codeOf Tryd.f22

noncomputable def S22_0 (call : CallF) (t0 : AV) (h : Heap) : Res :=
  opt (litBi Tryd.prog .real [22] 40 [false] [t0]) fun t18 =>
  opt (convX Tryd.prog 40 3 t18 h) fun t19 =>
  some ((.tup [t19, (.lit (.bool true))]), h)

theorem TS22_0 (call : CallF) : (rk Tryd.prog call 20 (Code.snd (Code.snd c22))).1 (finK Tryd.prog Tryd.f22.results.toList) [] (finK Tryd.prog Tryd.f22.results.toList) (fun _ => stuckK) = fun s h => S22_0 call (s.rd 0) h := by funext s h; kernel_rfl

noncomputable def S22_1 (call : CallF) (t0 : AV) (t16 : AV) (h : Heap) : Res :=
  test t16
  (some ((.tup [(.lit (.int .i64 0)), (.lit (.bool false))]), h))
  (S22_0 call t0 h)

theorem TS22_1 (call : CallF) : (rk Tryd.prog call 20 (Code.snd (Code.fst (Code.snd c22)))).1 (fun s h => S22_0 call (s.rd 0) h) [] (finK Tryd.prog Tryd.f22.results.toList) (fun _ => stuckK) = fun s h => S22_1 call (s.rd 0) (s.rd 16) h := by funext s h; kernel_rfl

noncomputable def S22_2 (call : CallF) (t0 : AV) (h : Heap) : Res :=
  opt2 (call 16 [t0] h) fun t5 h1 =>
  opt (notX t5) fun t6 =>
  test t6
  (S22_1 call t0 (.lit (.bool true)) h1)
  (opt (litBi Tryd.prog .imag [22] 40 [false] [t0]) fun t9 =>
  opt (binX Tryd.prog .none .neq 40 t9 (.lit (.float .f64 0))) fun t10 =>
  test t10
  (S22_1 call t0 (.lit (.bool true)) h1)
  (opt (litBi Tryd.prog .real [22] 40 [false] [t0]) fun t14 =>
  opt (binX Tryd.prog .none .lss 40 t14 (.lit (.float .f64 0))) fun t15 =>
  S22_1 call t0 t15 h1))

theorem TS22_2 (call : CallF) : (rk Tryd.prog call 20 (Code.snd c22)).1 (finK Tryd.prog Tryd.f22.results.toList) [] (finK Tryd.prog Tryd.f22.results.toList) (fun _ => stuckK) = fun s h => S22_2 call (s.rd 0) h := Eq.trans (seq_t (by kernel_rfl) (TS22_0 call) (seq_t (by kernel_rfl) (TS22_1 call) rfl)) (by funext s h; kernel_rfl)

/-- hawser/num.Index -/
noncomputable def F22 (call : CallF) (a0 : AV) (h : Heap) : Res :=
  S22_2 call a0 h

theorem TF22 (call : CallF) (a0 : AV) (h : Heap) : (rk Tryd.prog call 20 c22).1 (finK Tryd.prog Tryd.f22.results.toList) [] (finK Tryd.prog Tryd.f22.results.toList) (fun _ => stuckK) (argsTr gl 0 [a0]) h = F22 call a0 h := Eq.trans (congrFun (congrFun (seq_t (by kernel_rfl) (TS22_2 call) rfl) _) _) (by kernel_rfl)

noncomputable def N22 : FnF
  | call, [a0], h => F22 call a0 h
  | _, _, _ => none

theorem N22_ok : FnOk Tryd.prog gl 22 N22 := FnOk.of namesOk mixedOrders lowOk Tryd.func22 (by kernel_rfl) fun call args h r hF => by
  unfold N22 at hF
  split at hF
  · rw [← hF, ← TF22]; exact bodyK_at (by kernel_rfl) (by kernel_rfl) rfl rfl
  · cases hF

noncomputable def c23 : Code := codeOf Tryd.f23

noncomputable def S23_0 (call : CallF) (t0 : AV) (t8 : AV) (t9 : AV) (t11 : AV) (t12 : AV) (h : Heap) : Res :=
  opt (fastBin .eql t0 (.lit (.string ⟨⟨[97, 100, 100]⟩⟩))) fun t34 =>
  test t34
  (opt (fastBin .add t8 t11) fun t37 =>
  opt (fastBin .add t9 t12) fun t40 =>
  opt2 (call 39 [t37, t40] h) fun t41 h1 =>
  opt (extractX t41 0) fun t42 =>
  opt (extractX t41 1) fun t43 =>
  some ((.tup [t42, t43]), h1))
  (opt (fastBin .eql t0 (.lit (.string ⟨⟨[115, 117, 98]⟩⟩))) fun t45 =>
  test t45
  (opt (fastBin .sub t8 t11) fun t48 =>
  opt (fastBin .sub t9 t12) fun t51 =>
  opt2 (call 39 [t48, t51] h) fun t52 h2 =>
  opt (extractX t52 0) fun t53 =>
  opt (extractX t52 1) fun t54 =>
  some ((.tup [t53, t54]), h2))
  (opt (fastBin .eql t0 (.lit (.string ⟨⟨[109, 117, 108]⟩⟩))) fun t56 =>
  test t56
  (opt (fastBin .mul t8 t11) fun t59 =>
  opt (fastBin .mul t9 t12) fun t62 =>
  opt (fastBin .sub t59 t62) fun t63 =>
  opt (fastBin .mul t8 t12) fun t66 =>
  opt (fastBin .mul t9 t11) fun t69 =>
  opt (fastBin .add t66 t69) fun t70 =>
  opt2 (call 39 [t63, t70] h) fun t71 h3 =>
  opt (extractX t71 0) fun t72 =>
  opt (extractX t71 1) fun t73 =>
  some ((.tup [t72, t73]), h3))
  (some ((.tup [(.lit (.complex .f64 0 0)), (.lit (.int .i64 1))]), h))))

theorem TS23_0 (call : CallF) : (rk Tryd.prog call 74 (Code.snd (Code.snd (Code.snd (Code.snd c23))))).1 (finK Tryd.prog Tryd.f23.results.toList) [] (finK Tryd.prog Tryd.f23.results.toList) (fun _ => stuckK) = fun s h => S23_0 call (s.rd 0) (s.rd 8) (s.rd 9) (s.rd 11) (s.rd 12) h := by funext s h; kernel_rfl

noncomputable def S23_1 (call : CallF) (t0 : AV) (t8 : AV) (t9 : AV) (t11 : AV) (t12 : AV) (t31 : AV) (h : Heap) : Res :=
  test t31
  (some ((.tup [(.lit (.complex .f64 0 0)), (.lit (.int .i64 1))]), h))
  (S23_0 call t0 t8 t9 t11 t12 h)

theorem TS23_1 (call : CallF) : (rk Tryd.prog call 74 (Code.snd (Code.fst (Code.snd (Code.snd (Code.snd c23)))))).1 (fun s h => S23_0 call (s.rd 0) (s.rd 8) (s.rd 9) (s.rd 11) (s.rd 12) h) [] (finK Tryd.prog Tryd.f23.results.toList) (fun _ => stuckK) = fun s h => S23_1 call (s.rd 0) (s.rd 8) (s.rd 9) (s.rd 11) (s.rd 12) (s.rd 31) h := by funext s h; kernel_rfl

noncomputable def S23_2 (call : CallF) (t0 : AV) (t8 : AV) (t9 : AV) (t10 : AV) (t11 : AV) (t12 : AV) (t13 : AV) (h : Heap) : Res :=
  opt (notX t10) fun t27 =>
  test t27
  (S23_1 call t0 t8 t9 t11 t12 (.lit (.bool true)) h)
  (opt (notX t13) fun t30 =>
  S23_1 call t0 t8 t9 t11 t12 t30 h)

theorem TS23_2 (call : CallF) : (rk Tryd.prog call 74 (Code.snd (Code.snd (Code.snd c23)))).1 (finK Tryd.prog Tryd.f23.results.toList) [] (finK Tryd.prog Tryd.f23.results.toList) (fun _ => stuckK) = fun s h => S23_2 call (s.rd 0) (s.rd 8) (s.rd 9) (s.rd 10) (s.rd 11) (s.rd 12) (s.rd 13) h := Eq.trans (seq_t (by kernel_rfl) (TS23_0 call) (seq_t (by kernel_rfl) (TS23_1 call) rfl)) (by funext s h; kernel_rfl)

noncomputable def S23_3 (call : CallF) (t0 : AV) (t2 : AV) (t8 : AV) (t9 : AV) (t10 : AV) (h : Heap) : Res :=
  opt2 (call 38 [t2] h) fun t22 h1 =>
  opt (extractX t22 0) fun t23 =>
  opt (extractX t22 1) fun t24 =>
  opt (extractX t22 2) fun t25 =>
  S23_2 call t0 t8 t9 t10 t23 t24 t25 h1

theorem TS23_3 (call : CallF) : (rk Tryd.prog call 74 (Code.snd (Code.snd c23))).1 (finK Tryd.prog Tryd.f23.results.toList) [] (finK Tryd.prog Tryd.f23.results.toList) (fun _ => stuckK) = fun s h => S23_3 call (s.rd 0) (s.rd 2) (s.rd 8) (s.rd 9) (s.rd 10) h := Eq.trans (seq_t (by kernel_rfl) (TS23_2 call) rfl) (by funext s h; kernel_rfl)

noncomputable def S23_4 (call : CallF) (t0 : AV) (t1 : AV) (t2 : AV) (h : Heap) : Res :=
  opt2 (call 38 [t1] h) fun t16 h1 =>
  opt (extractX t16 0) fun t17 =>
  opt (extractX t16 1) fun t18 =>
  opt (extractX t16 2) fun t19 =>
  S23_3 call t0 t2 t17 t18 t19 h1

theorem TS23_4 (call : CallF) : (rk Tryd.prog call 74 (Code.snd c23)).1 (finK Tryd.prog Tryd.f23.results.toList) [] (finK Tryd.prog Tryd.f23.results.toList) (fun _ => stuckK) = fun s h => S23_4 call (s.rd 0) (s.rd 1) (s.rd 2) h := Eq.trans (seq_t (by kernel_rfl) (TS23_3 call) rfl) (by funext s h; kernel_rfl)

/-- hawser/hawserref2.Two -/
noncomputable def F23 (call : CallF) (a0 : AV) (a1 : AV) (a2 : AV) (h : Heap) : Res :=
  S23_4 call a0 a1 a2 h

theorem TF23 (call : CallF) (a0 : AV) (a1 : AV) (a2 : AV) (h : Heap) : (rk Tryd.prog call 74 c23).1 (finK Tryd.prog Tryd.f23.results.toList) [] (finK Tryd.prog Tryd.f23.results.toList) (fun _ => stuckK) (argsTr gl 0 [a0, a1, a2]) h = F23 call a0 a1 a2 h := Eq.trans (congrFun (congrFun (seq_t (by kernel_rfl) (TS23_4 call) rfl) _) _) (by kernel_rfl)

noncomputable def N23 : FnF
  | call, [a0, a1, a2], h => F23 call a0 a1 a2 h
  | _, _, _ => none

theorem N23_ok : FnOk Tryd.prog gl 23 N23 := FnOk.of namesOk mixedOrders lowOk Tryd.func23 (by kernel_rfl) fun call args h r hF => by
  unfold N23 at hF
  split at hF
  · rw [← hF, ← TF23]; exact bodyK_at (by kernel_rfl) (by kernel_rfl) rfl rfl
  · cases hF

noncomputable def c24 : Code := codeOf Tryd.f24

/-- hawser/hawserref2.One -/
noncomputable def F24 (call : CallF) (a0 : AV) (a1 : AV) (h : Heap) : Res :=
  opt2 (call 38 [a1] h) fun t11 h1 =>
  opt (extractX t11 0) fun t12 =>
  opt (extractX t11 1) fun t13 =>
  opt (extractX t11 2) fun t14 =>
  opt (notX t14) fun t16 =>
  test t16
  (some ((.tup [(.lit (.complex .f64 0 0)), (.lit (.int .i64 1))]), h1))
  (opt (fastBin .eql a0 (.lit (.string ⟨⟨[110, 101, 103]⟩⟩))) fun t19 =>
  test t19
  (opt (litUn Tryd.prog .neg t12) fun t21 =>
  opt (litUn Tryd.prog .neg t13) fun t23 =>
  opt2 (call 39 [t21, t23] h1) fun t24 h2 =>
  opt (extractX t24 0) fun t25 =>
  opt (extractX t24 1) fun t26 =>
  some ((.tup [t25, t26]), h2))
  (opt (fastBin .eql a0 (.lit (.string ⟨⟨[99, 111, 110, 106]⟩⟩))) fun t28 =>
  test t28
  (opt (litUn Tryd.prog .neg t13) fun t31 =>
  opt2 (call 39 [t12, t31] h1) fun t32 h3 =>
  opt (extractX t32 0) fun t33 =>
  opt (extractX t32 1) fun t34 =>
  some ((.tup [t33, t34]), h3))
  (opt (fastBin .eql a0 (.lit (.string ⟨⟨[114, 101]⟩⟩))) fun t36 =>
  test t36
  (opt2 (call 39 [t12, (.lit (.int .i64 0))] h1) fun t38 h4 =>
  opt (extractX t38 0) fun t39 =>
  opt (extractX t38 1) fun t40 =>
  some ((.tup [t39, t40]), h4))
  (opt (fastBin .eql a0 (.lit (.string ⟨⟨[105, 109]⟩⟩))) fun t42 =>
  test t42
  (opt2 (call 39 [t13, (.lit (.int .i64 0))] h1) fun t44 h5 =>
  opt (extractX t44 0) fun t45 =>
  opt (extractX t44 1) fun t46 =>
  some ((.tup [t45, t46]), h5))
  (some ((.tup [(.lit (.complex .f64 0 0)), (.lit (.int .i64 1))]), h1))))))

theorem TF24 (call : CallF) (a0 : AV) (a1 : AV) (h : Heap) : (rk Tryd.prog call 47 c24).1 (finK Tryd.prog Tryd.f24.results.toList) [] (finK Tryd.prog Tryd.f24.results.toList) (fun _ => stuckK) (argsTr gl 0 [a0, a1]) h = F24 call a0 a1 h := by kernel_rfl

noncomputable def N24 : FnF
  | call, [a0, a1], h => F24 call a0 a1 h
  | _, _, _ => none

theorem N24_ok : FnOk Tryd.prog gl 24 N24 := FnOk.of namesOk mixedOrders lowOk Tryd.func24 (by kernel_rfl) fun call args h r hF => by
  unfold N24 at hF
  split at hF
  · rw [← hF, ← TF24]; exact bodyK_at (by kernel_rfl) (by kernel_rfl) rfl rfl
  · cases hF

noncomputable def c25 : Code := codeOf Tryd.f25

noncomputable def S25_0 (call : CallF) (t4 : AV) (h : Heap) : Res :=
  some ((.tup [t4, (.lit (.bool true))]), h)

theorem TS25_0 (call : CallF) : (rk Tryd.prog call 24 (Code.snd (Code.snd (Code.snd c25)))).1 (finK Tryd.prog Tryd.f25.results.toList) [] (finK Tryd.prog Tryd.f25.results.toList) (fun _ => stuckK) = fun s h => S25_0 call (s.rd 4) h := by funext s h; kernel_rfl

noncomputable def S25_1 (call : CallF) (t4 : AV) (t22 : AV) (h : Heap) : Res :=
  test t22
  (some ((.tup [(.lit (.int .i64 0)), (.lit (.bool false))]), h))
  (S25_0 call t4 h)

theorem TS25_1 (call : CallF) : (rk Tryd.prog call 24 (Code.snd (Code.fst (Code.snd (Code.snd c25))))).1 (fun s h => S25_0 call (s.rd 4) h) [] (finK Tryd.prog Tryd.f25.results.toList) (fun _ => stuckK) = fun s h => S25_1 call (s.rd 4) (s.rd 22) h := by funext s h; kernel_rfl

noncomputable def S25_2 (call : CallF) (t4 : AV) (t5 : AV) (t6 : AV) (h : Heap) : Res :=
  opt (notX t6) fun t14 =>
  test t14
  (S25_1 call t4 (.lit (.bool true)) h)
  (opt (fastBin .neq t5 (.lit (.int .i64 0))) fun t17 =>
  test t17
  (S25_1 call t4 (.lit (.bool true)) h)
  (opt (fastBin .lss t4 (.lit (.int .i64 0))) fun t21 =>
  S25_1 call t4 t21 h))

theorem TS25_2 (call : CallF) : (rk Tryd.prog call 24 (Code.snd (Code.snd c25))).1 (finK Tryd.prog Tryd.f25.results.toList) [] (finK Tryd.prog Tryd.f25.results.toList) (fun _ => stuckK) = fun s h => S25_2 call (s.rd 4) (s.rd 5) (s.rd 6) h := Eq.trans (seq_t (by kernel_rfl) (TS25_0 call) (seq_t (by kernel_rfl) (TS25_1 call) rfl)) (by funext s h; kernel_rfl)

noncomputable def S25_3 (call : CallF) (t0 : AV) (h : Heap) : Res :=
  opt2 (call 38 [t0] h) fun t9 h1 =>
  opt (extractX t9 0) fun t10 =>
  opt (extractX t9 1) fun t11 =>
  opt (extractX t9 2) fun t12 =>
  S25_2 call t10 t11 t12 h1

theorem TS25_3 (call : CallF) : (rk Tryd.prog call 24 (Code.snd c25)).1 (finK Tryd.prog Tryd.f25.results.toList) [] (finK Tryd.prog Tryd.f25.results.toList) (fun _ => stuckK) = fun s h => S25_3 call (s.rd 0) h := Eq.trans (seq_t (by kernel_rfl) (TS25_2 call) rfl) (by funext s h; kernel_rfl)

/-- hawser/hawserref2.Index -/
noncomputable def F25 (call : CallF) (a0 : AV) (h : Heap) : Res :=
  S25_3 call a0 h

theorem TF25 (call : CallF) (a0 : AV) (h : Heap) : (rk Tryd.prog call 24 c25).1 (finK Tryd.prog Tryd.f25.results.toList) [] (finK Tryd.prog Tryd.f25.results.toList) (fun _ => stuckK) (argsTr gl 0 [a0]) h = F25 call a0 h := Eq.trans (congrFun (congrFun (seq_t (by kernel_rfl) (TS25_3 call) rfl) _) _) (by kernel_rfl)

noncomputable def N25 : FnF
  | call, [a0], h => F25 call a0 h
  | _, _, _ => none

theorem N25_ok : FnOk Tryd.prog gl 25 N25 := FnOk.of namesOk mixedOrders lowOk Tryd.func25 (by kernel_rfl) fun call args h r hF => by
  unfold N25 at hF
  split at hF
  · rw [← hF, ← TF25]; exact bodyK_at (by kernel_rfl) (by kernel_rfl) rfl rfl
  · cases hF

noncomputable def c26 : Code := codeOf Tryd.f26

/-- hawser/hawserref2.Less -/
noncomputable def F26 (call : CallF) (a0 : AV) (a1 : AV) (h : Heap) : Res :=
  opt2 (call 38 [a0] h) fun t13 h1 =>
  opt (extractX t13 0) fun t14 =>
  opt (extractX t13 1) fun t15 =>
  opt (extractX t13 2) fun t16 =>
  opt2 (call 38 [a1] h1) fun t19 h2 =>
  opt (extractX t19 0) fun t20 =>
  opt (extractX t19 1) fun t21 =>
  opt (extractX t19 2) fun t22 =>
  test t16
  (test t22
  (opt (fastBin .lss t14 t20) fun t30 =>
  test t30
  (some ((.lit (.bool true)), h2))
  (opt (fastBin .eql t14 t20) fun t34 =>
  test t34
  (opt (fastBin .lss t15 t21) fun t38 =>
  some (t38, h2))
  (some ((.lit (.bool false)), h2))))
  (some ((.lit (.bool false)), h2)))
  (some ((.lit (.bool false)), h2))

theorem TF26 (call : CallF) (a0 : AV) (a1 : AV) (h : Heap) : (rk Tryd.prog call 42 c26).1 (finK Tryd.prog Tryd.f26.results.toList) [] (finK Tryd.prog Tryd.f26.results.toList) (fun _ => stuckK) (argsTr gl 0 [a0, a1]) h = F26 call a0 a1 h := by kernel_rfl

noncomputable def N26 : FnF
  | call, [a0, a1], h => F26 call a0 a1 h
  | _, _, _ => none

theorem N26_ok : FnOk Tryd.prog gl 26 N26 := FnOk.of namesOk mixedOrders lowOk Tryd.func26 (by kernel_rfl) fun call args h r hF => by
  unfold N26 at hF
  split at hF
  · rw [← hF, ← TF26]; exact bodyK_at (by kernel_rfl) (by kernel_rfl) rfl rfl
  · cases hF

noncomputable def c27 : Code := codeOf Tryd.f27

/-- hawser/hawserref2.Right -/
noncomputable def F27 (call : CallF) (a0 : AV) (h : Heap) : Res :=
  opt2 (call 38 [a0] h) fun t8 h1 =>
  opt (extractX t8 0) fun t9 =>
  opt (extractX t8 1) fun t10 =>
  opt (extractX t8 2) fun t11 =>
  some (t11, h1)

theorem TF27 (call : CallF) (a0 : AV) (h : Heap) : (rk Tryd.prog call 13 c27).1 (finK Tryd.prog Tryd.f27.results.toList) [] (finK Tryd.prog Tryd.f27.results.toList) (fun _ => stuckK) (argsTr gl 0 [a0]) h = F27 call a0 h := by kernel_rfl

noncomputable def N27 : FnF
  | call, [a0], h => F27 call a0 h
  | _, _, _ => none

theorem N27_ok : FnOk Tryd.prog gl 27 N27 := FnOk.of namesOk mixedOrders lowOk Tryd.func27 (by kernel_rfl) fun call args h r hF => by
  unfold N27 at hF
  split at hF
  · rw [← hF, ← TF27]; exact bodyK_at (by kernel_rfl) (by kernel_rfl) rfl rfl
  · cases hF

noncomputable def c28 : Code := codeOf Tryd.f28

/-- hawser/hawserref2.Text -/
noncomputable def F28 (call : CallF) (a0 : AV) (h : Heap) : Res :=
  opt2 (call 38 [a0] h) fun t8 h1 =>
  opt (extractX t8 0) fun t9 =>
  opt (extractX t8 1) fun t10 =>
  opt (extractX t8 2) fun t11 =>
  opt (notX t11) fun t14 =>
  test t14
  (some ((.lit (.string ⟨⟨[]⟩⟩)), h1))
  (opt (fastBin .eql t10 (.lit (.int .i64 0))) fun t17 =>
  test t17
  (opt2 (call 40 [t9] h1) fun t19 h2 =>
  some (t19, h2))
  (opt (fastBin .eql t9 (.lit (.int .i64 0))) fun t22 =>
  test t22
  (opt2 (call 40 [t10] h1) fun t24 h3 =>
  opt (fastBin .add t24 (.lit (.string ⟨⟨[105]⟩⟩))) fun t25 =>
  some (t25, h3))
  (opt (fastBin .gtr t10 (.lit (.int .i64 0))) fun t28 =>
  test t28
  (opt2 (call 40 [t9] h1) fun t30 h4 =>
  opt (fastBin .add t30 (.lit (.string ⟨⟨[43]⟩⟩))) fun t31 =>
  opt2 (call 40 [t10] h4) fun t33 h5 =>
  opt (fastBin .add t31 t33) fun t34 =>
  opt (fastBin .add t34 (.lit (.string ⟨⟨[105]⟩⟩))) fun t35 =>
  some (t35, h5))
  (opt2 (call 40 [t9] h1) fun t37 h6 =>
  opt2 (call 40 [t10] h6) fun t39 h7 =>
  opt (fastBin .add t37 t39) fun t40 =>
  opt (fastBin .add t40 (.lit (.string ⟨⟨[105]⟩⟩))) fun t41 =>
  some (t41, h7)))))

theorem TF28 (call : CallF) (a0 : AV) (h : Heap) : (rk Tryd.prog call 42 c28).1 (finK Tryd.prog Tryd.f28.results.toList) [] (finK Tryd.prog Tryd.f28.results.toList) (fun _ => stuckK) (argsTr gl 0 [a0]) h = F28 call a0 h := by kernel_rfl

noncomputable def N28 : FnF
  | call, [a0], h => F28 call a0 h
  | _, _, _ => none

theorem N28_ok : FnOk Tryd.prog gl 28 N28 := FnOk.of namesOk mixedOrders lowOk Tryd.func28 (by kernel_rfl) fun call args h r hF => by
  unfold N28 at hF
  split at hF
  · rw [← hF, ← TF28]; exact bodyK_at (by kernel_rfl) (by kernel_rfl) rfl rfl
  · cases hF

noncomputable def c29 : Code := codeOf Tryd.f29

noncomputable def S29_0 (call : CallF) (t0 : AV) (h : Heap) : Res :=
  opt (convX Tryd.prog 40 2 t0 h) fun t11 =>
  some (t11, h)

theorem TS29_0 (call : CallF) : (rk Tryd.prog call 12 (Code.snd (Code.snd c29))).1 (finK Tryd.prog Tryd.f29.results.toList) [] (finK Tryd.prog Tryd.f29.results.toList) (fun _ => stuckK) = fun s h => S29_0 call (s.rd 0) h := by funext s h; kernel_rfl

noncomputable def S29_1 (call : CallF) (t0 : AV) (h : Heap) : Res :=
  opt (binX Tryd.prog .none .gtr 40 t0 (.lit (.float .f64 14054727237768577024))) fun t4 =>
  test t4
  (opt (binX Tryd.prog .none .lss 40 t0 (.lit (.float .f64 4831355200913801216))) fun t7 =>
  opt (notX t7) fun t9 =>
  test t9
  (some ((.lit (.int .i64 0)), h))
  (S29_0 call t0 h))
  (opt (notX (.lit (.bool false))) fun t9_1 =>
  test t9_1
  (some ((.lit (.int .i64 0)), h))
  (S29_0 call t0 h))

theorem TS29_1 (call : CallF) : (rk Tryd.prog call 12 (Code.snd c29)).1 (finK Tryd.prog Tryd.f29.results.toList) [] (finK Tryd.prog Tryd.f29.results.toList) (fun _ => stuckK) = fun s h => S29_1 call (s.rd 0) h := Eq.trans (seq_t (by kernel_rfl) (TS29_0 call) rfl) (by funext s h; kernel_rfl)

/-- hawser/hawserlaw2.whole -/
noncomputable def F29 (call : CallF) (a0 : AV) (h : Heap) : Res :=
  S29_1 call a0 h

theorem TF29 (call : CallF) (a0 : AV) (h : Heap) : (rk Tryd.prog call 12 c29).1 (finK Tryd.prog Tryd.f29.results.toList) [] (finK Tryd.prog Tryd.f29.results.toList) (fun _ => stuckK) (argsTr gl 0 [a0]) h = F29 call a0 h := Eq.trans (congrFun (congrFun (seq_t (by kernel_rfl) (TS29_1 call) rfl) _) _) (by kernel_rfl)

noncomputable def N29 : FnF
  | call, [a0], h => F29 call a0 h
  | _, _, _ => none

theorem N29_ok : FnOk Tryd.prog gl 29 N29 := FnOk.of namesOk mixedOrders lowOk Tryd.func29 (by kernel_rfl) fun call args h r hF => by
  unfold N29 at hF
  split at hF
  · rw [← hF, ← TF29]; exact bodyK_at (by kernel_rfl) (by kernel_rfl) rfl rfl
  · cases hF

noncomputable def c30 : Code := codeOf Tryd.f30

/-- strings.CutPrefix -/
noncomputable def F30 (call : CallF) (a0 : AV) (a1 : AV) (h : Heap) : Res :=
  opt2 (call 41 [a0, a1] h) fun t8 h1 =>
  opt (extractX t8 0) fun t9 =>
  opt (extractX t8 1) fun t10 =>
  some ((.tup [t9, t10]), h1)

theorem TF30 (call : CallF) (a0 : AV) (a1 : AV) (h : Heap) : (rk Tryd.prog call 11 c30).1 (finK Tryd.prog Tryd.f30.results.toList) [] (finK Tryd.prog Tryd.f30.results.toList) (fun _ => stuckK) (argsTr gl 0 [a0, a1]) h = F30 call a0 a1 h := by kernel_rfl

noncomputable def N30 : FnF
  | call, [a0, a1], h => F30 call a0 a1 h
  | _, _, _ => none

theorem N30_ok : FnOk Tryd.prog gl 30 N30 := FnOk.of namesOk mixedOrders lowOk Tryd.func30 (by kernel_rfl) fun call args h r hF => by
  unfold N30 at hF
  split at hF
  · rw [← hF, ← TF30]; exact bodyK_at (by kernel_rfl) (by kernel_rfl) rfl rfl
  · cases hF

noncomputable def c31 : Code := codeOf Tryd.f31

noncomputable def S31_0 (call : CallF) (t0 : AV) (t5 : AV) (t6 : AV) (h : Heap) : Res :=
  opt (convX Tryd.prog 3 40 t5 h) fun t35 =>
  eqH h h (
  opt (fastCut t0 (some t6) none none) fun t38 =>
  eqH h h (
  opt (fastBin .gtr t6 (.lit (.int .i64 0))) fun t40 =>
  some ((.tup [t35, t38, t40]), h)))

theorem TS31_0 (call : CallF) : (rk Tryd.prog call 41 (Code.snd (Code.snd (Code.snd c31)))).1 (finK Tryd.prog Tryd.f31.results.toList) [] (finK Tryd.prog Tryd.f31.results.toList) (fun _ => stuckK) = fun s h => S31_0 call (s.rd 0) (s.rd 5) (s.rd 6) h := by funext s h; kernel_rfl

noncomputable def S31_2 (call : CallF) (r1 : AV → AV → AV → Heap → Res) (t0 : AV) (t5 : AV) (t6 : AV) (h : Heap) : Res :=
  opt (fastBin .mul (.lit (.int .i64 10)) t5) fun t24 =>
  opt (fastIndex t0 t6) fun t27 =>
  opt (fastBin .sub t27 (.lit (.int .u8 48))) fun t28 =>
  opt (convI .i64 t28) fun t29 =>
  opt (fastBin .add t24 t29) fun t30 =>
  opt (litBi Tryd.prog .min [3, 3] 3 [false, true] [t30, (.lit (.int .i64 10485760))]) fun t31 =>
  opt (fastBin .add t6 (.lit (.int .i64 1))) fun t33 =>
  r1 t0 t31 t33 h

theorem TS31_2 (call : CallF) (r1 : AV → AV → AV → Heap → Res) : (rk Tryd.prog call 41 (Code.snd (Code.bd (Code.bd (Code.fst (Code.snd (Code.snd c31))))))).1 (fun s h => r1 (s.rd 0) (s.rd 5) (s.rd 6) h) [(0, (fun s h => S31_0 call (s.rd 0) (s.rd 5) (s.rd 6) h))] (finK Tryd.prog Tryd.f31.results.toList) (fun _ => stuckK) = fun s h => S31_2 call r1 (s.rd 0) (s.rd 5) (s.rd 6) h := by funext s h; kernel_rfl

noncomputable def S31_3b (call : CallF) (r1 : AV → AV → AV → Heap → Res) (t0 : AV) (t5 : AV) (t6 : AV) (h : Heap) : Res :=
  opt (lenStr t0) fun t9 =>
  opt (fastBin .lss t6 t9) fun t10 =>
  test t10
  (opt (fastIndex t0 t6) fun t14 =>
  opt (fastBin .geq t14 (.lit (.int .u8 48))) fun t15 =>
  test t15
  (opt (fastIndex t0 t6) fun t20 =>
  opt (fastBin .leq t20 (.lit (.int .u8 57))) fun t21 =>
  test t21
  (S31_2 call r1 t0 t5 t6 h)
  (S31_0 call t0 t5 t6 h))
  (S31_0 call t0 t5 t6 h))
  (S31_0 call t0 t5 t6 h)

theorem TS31_3b (call : CallF) (r1 : AV → AV → AV → Heap → Res) : (rk Tryd.prog call 41 (Code.bd (Code.bd (Code.fst (Code.snd (Code.snd c31)))))).1 (fun s h => r1 (s.rd 0) (s.rd 5) (s.rd 6) h) [(0, (fun s h => S31_0 call (s.rd 0) (s.rd 5) (s.rd 6) h))] (finK Tryd.prog Tryd.f31.results.toList) (fun _ => stuckK) = fun s h => S31_3b call r1 (s.rd 0) (s.rd 5) (s.rd 6) h := Eq.trans (seq_t (by kernel_rfl) (TS31_2 call r1) rfl) (by funext s h; kernel_rfl)

noncomputable def S31_1l (call : CallF) : Nat → AV → AV → AV → Heap → Res
  | 0 => fun _ _ _ _ => none
  | k + 1 => S31_3b call (S31_1l call k)

theorem TS31_1l (call : CallF) : (rk Tryd.prog call 41 (Code.bd (Code.fst (Code.snd (Code.snd c31))))).1 (fun s h => S31_0 call (s.rd 0) (s.rd 5) (s.rd 6) h) [(0, (fun s h => S31_0 call (s.rd 0) (s.rd 5) (s.rd 6) h))] (finK Tryd.prog Tryd.f31.results.toList) (fun _ => stuckK) = fun s h => S31_1l call rounds (s.rd 0) (s.rd 5) (s.rd 6) h :=
  loop_t (by kernel_rfl) (loop_ind (A := fun m => fun s h => S31_1l call m (s.rd 0) (s.rd 5) (s.rd 6) h) rfl (fun m => TS31_3b call (S31_1l call m)) rounds)

noncomputable def S31_4 (call : CallF) (t0 : AV) (t5 : AV) (t6 : AV) (h : Heap) : Res :=
  S31_1l call rounds t0 t5 t6 h

theorem TS31_4 (call : CallF) : (rk Tryd.prog call 41 (Code.snd (Code.snd c31))).1 (finK Tryd.prog Tryd.f31.results.toList) [] (finK Tryd.prog Tryd.f31.results.toList) (fun _ => stuckK) = fun s h => S31_4 call (s.rd 0) (s.rd 5) (s.rd 6) h := Eq.trans (seq_t (by kernel_rfl) (TS31_0 call) (block_t (id := 0) (by kernel_rfl) (TS31_1l call))) (by funext s h; kernel_rfl)

noncomputable def S31_5 (call : CallF) (t0 : AV) (h : Heap) : Res :=
  S31_4 call t0 (.lit (.int .i64 0)) (.lit (.int .i64 0)) h

theorem TS31_5 (call : CallF) : (rk Tryd.prog call 41 (Code.snd c31)).1 (finK Tryd.prog Tryd.f31.results.toList) [] (finK Tryd.prog Tryd.f31.results.toList) (fun _ => stuckK) = fun s h => S31_5 call (s.rd 0) h := Eq.trans (seq_t (by kernel_rfl) (TS31_4 call) rfl) (by funext s h; kernel_rfl)

/-- hawser/num.digits -/
noncomputable def F31 (call : CallF) (a0 : AV) (h : Heap) : Res :=
  S31_5 call a0 h

theorem TF31 (call : CallF) (a0 : AV) (h : Heap) : (rk Tryd.prog call 41 c31).1 (finK Tryd.prog Tryd.f31.results.toList) [] (finK Tryd.prog Tryd.f31.results.toList) (fun _ => stuckK) (argsTr gl 0 [a0]) h = F31 call a0 h := Eq.trans (congrFun (congrFun (seq_t (by kernel_rfl) (TS31_5 call) rfl) _) _) (by kernel_rfl)

noncomputable def N31 : FnF
  | call, [a0], h => F31 call a0 h
  | _, _, _ => none

theorem N31_ok : FnOk Tryd.prog gl 31 N31 := FnOk.of namesOk mixedOrders lowOk Tryd.func31 (by kernel_rfl) fun call args h r hF => by
  unfold N31 at hF
  split at hF
  · rw [← hF, ← TF31]; exact bodyK_at (by kernel_rfl) (by kernel_rfl) rfl rfl
  · cases hF

noncomputable def c32 : Code := codeOf Tryd.f32

/-- hawser/num.signed -/
noncomputable def F32 (call : CallF) (a0 : AV) (a1 : AV) (h : Heap) : Res :=
  test a1
  (opt (litUn Tryd.prog .neg a0) fun t7 =>
  some (t7, h))
  (some (a0, h))

theorem TF32 (call : CallF) (a0 : AV) (a1 : AV) (h : Heap) : (rk Tryd.prog call 9 c32).1 (finK Tryd.prog Tryd.f32.results.toList) [] (finK Tryd.prog Tryd.f32.results.toList) (fun _ => stuckK) (argsTr gl 0 [a0, a1]) h = F32 call a0 a1 h := by kernel_rfl

noncomputable def N32 : FnF
  | call, [a0, a1], h => F32 call a0 a1 h
  | _, _, _ => none

theorem N32_ok : FnOk Tryd.prog gl 32 N32 := FnOk.of namesOk mixedOrders lowOk Tryd.func32 (by kernel_rfl) fun call args h r hF => by
  unfold N32 at hF
  split at hF
  · rw [← hF, ← TF32]; exact bodyK_at (by kernel_rfl) (by kernel_rfl) rfl rfl
  · cases hF

noncomputable def c33 : Code := codeOf Tryd.f33

/-- hawser/num.plain -/
noncomputable def F33 (call : CallF) (a0 : AV) (h : Heap) : Res :=
  opt (litBi Tryd.prog .real [22] 40 [false] [a0]) fun t4 =>
  opt (binX Tryd.prog .none .add 40 t4 (.lit (.float .f64 0))) fun t5 =>
  opt (litBi Tryd.prog .imag [22] 40 [false] [a0]) fun t7 =>
  opt (binX Tryd.prog .none .add 40 t7 (.lit (.float .f64 0))) fun t8 =>
  opt (litBi Tryd.prog .complex [40, 40] 22 [false, false] [t5, t8]) fun t9 =>
  some (t9, h)

theorem TF33 (call : CallF) (a0 : AV) (h : Heap) : (rk Tryd.prog call 10 c33).1 (finK Tryd.prog Tryd.f33.results.toList) [] (finK Tryd.prog Tryd.f33.results.toList) (fun _ => stuckK) (argsTr gl 0 [a0]) h = F33 call a0 h := by kernel_rfl

noncomputable def N33 : FnF
  | call, [a0], h => F33 call a0 h
  | _, _, _ => none

theorem N33_ok : FnOk Tryd.prog gl 33 N33 := FnOk.of namesOk mixedOrders lowOk Tryd.func33 (by kernel_rfl) fun call args h r hF => by
  unfold N33 at hF
  split at hF
  · rw [← hF, ← TF33]; exact bodyK_at (by kernel_rfl) (by kernel_rfl) rfl rfl
  · cases hF

noncomputable def c34 : Code := codeOf Tryd.f34

noncomputable def S34_0 (call : CallF) (t0 : AV) (t5 : AV) (t6 : AV) (h : Heap) : Res :=
  opt (fastCut t0 (some t6) none none) fun t38 =>
  eqH h h (
  opt (fastBin .gtr t6 (.lit (.int .i64 0))) fun t40 =>
  some ((.tup [t5, t38, t40]), h))

theorem TS34_0 (call : CallF) : (rk Tryd.prog call 41 (Code.snd (Code.snd (Code.snd (Code.snd c34))))).1 (finK Tryd.prog Tryd.f34.results.toList) [] (finK Tryd.prog Tryd.f34.results.toList) (fun _ => stuckK) = fun s h => S34_0 call (s.rd 0) (s.rd 5) (s.rd 6) h := by funext s h; kernel_rfl

noncomputable def S34_2 (call : CallF) (r1 : AV → AV → AV → Heap → Res) (t0 : AV) (t5 : AV) (t6 : AV) (h : Heap) : Res :=
  opt (fastBin .add t6 (.lit (.int .i64 1))) fun t34 =>
  r1 t0 t5 t34 h

theorem TS34_2 (call : CallF) (r1 : AV → AV → AV → Heap → Res) : (rk Tryd.prog call 41 (Code.snd (Code.bd (Code.snd (Code.bd (Code.bd (Code.fst (Code.snd (Code.snd (Code.snd c34)))))))))).1 (fun s h => r1 (s.rd 0) (s.rd 5) (s.rd 6) h) [(1, (fun s h => r1 (s.rd 0) (s.rd 5) (s.rd 6) h)), (0, (fun s h => S34_0 call (s.rd 0) (s.rd 5) (s.rd 6) h))] (finK Tryd.prog Tryd.f34.results.toList) (fun _ => stuckK) = fun s h => S34_2 call r1 (s.rd 0) (s.rd 5) (s.rd 6) h := by funext s h; kernel_rfl

noncomputable def S34_3 (call : CallF) (r1 : AV → AV → AV → Heap → Res) (t0 : AV) (t5 : AV) (t6 : AV) (h : Heap) : Res :=
  opt (fastBin .lss t5 (.lit (.int .i64 1099511627776))) fun t24 =>
  test t24
  (opt (fastBin .mul t5 (.lit (.int .i64 10))) fun t26 =>
  opt (fastIndex t0 t6) fun t29 =>
  opt (fastBin .sub t29 (.lit (.int .u8 48))) fun t30 =>
  opt (convI .i64 t30) fun t31 =>
  opt (fastBin .add t26 t31) fun t32 =>
  S34_2 call r1 t0 t32 t6 h)
  (S34_2 call r1 t0 t5 t6 h)

theorem TS34_3 (call : CallF) (r1 : AV → AV → AV → Heap → Res) : (rk Tryd.prog call 41 (Code.snd (Code.bd (Code.bd (Code.fst (Code.snd (Code.snd (Code.snd c34)))))))).1 (fun s h => r1 (s.rd 0) (s.rd 5) (s.rd 6) h) [(0, (fun s h => S34_0 call (s.rd 0) (s.rd 5) (s.rd 6) h))] (finK Tryd.prog Tryd.f34.results.toList) (fun _ => stuckK) = fun s h => S34_3 call r1 (s.rd 0) (s.rd 5) (s.rd 6) h := Eq.trans (block_t (id := 1) (by kernel_rfl) (seq_t (by kernel_rfl) (TS34_2 call r1) rfl)) (by funext s h; kernel_rfl)

noncomputable def S34_4b (call : CallF) (r1 : AV → AV → AV → Heap → Res) (t0 : AV) (t5 : AV) (t6 : AV) (h : Heap) : Res :=
  opt (lenStr t0) fun t9 =>
  opt (fastBin .lss t6 t9) fun t10 =>
  test t10
  (opt (fastIndex t0 t6) fun t14 =>
  opt (fastBin .geq t14 (.lit (.int .u8 48))) fun t15 =>
  test t15
  (opt (fastIndex t0 t6) fun t20 =>
  opt (fastBin .leq t20 (.lit (.int .u8 57))) fun t21 =>
  test t21
  (S34_3 call r1 t0 t5 t6 h)
  (S34_0 call t0 t5 t6 h))
  (S34_0 call t0 t5 t6 h))
  (S34_0 call t0 t5 t6 h)

theorem TS34_4b (call : CallF) (r1 : AV → AV → AV → Heap → Res) : (rk Tryd.prog call 41 (Code.bd (Code.bd (Code.fst (Code.snd (Code.snd (Code.snd c34))))))).1 (fun s h => r1 (s.rd 0) (s.rd 5) (s.rd 6) h) [(0, (fun s h => S34_0 call (s.rd 0) (s.rd 5) (s.rd 6) h))] (finK Tryd.prog Tryd.f34.results.toList) (fun _ => stuckK) = fun s h => S34_4b call r1 (s.rd 0) (s.rd 5) (s.rd 6) h := Eq.trans (seq_t (by kernel_rfl) (TS34_3 call r1) rfl) (by funext s h; kernel_rfl)

noncomputable def S34_1l (call : CallF) : Nat → AV → AV → AV → Heap → Res
  | 0 => fun _ _ _ _ => none
  | k + 1 => S34_4b call (S34_1l call k)

theorem TS34_1l (call : CallF) : (rk Tryd.prog call 41 (Code.bd (Code.fst (Code.snd (Code.snd (Code.snd c34)))))).1 (fun s h => S34_0 call (s.rd 0) (s.rd 5) (s.rd 6) h) [(0, (fun s h => S34_0 call (s.rd 0) (s.rd 5) (s.rd 6) h))] (finK Tryd.prog Tryd.f34.results.toList) (fun _ => stuckK) = fun s h => S34_1l call rounds (s.rd 0) (s.rd 5) (s.rd 6) h :=
  loop_t (by kernel_rfl) (loop_ind (A := fun m => fun s h => S34_1l call m (s.rd 0) (s.rd 5) (s.rd 6) h) rfl (fun m => TS34_4b call (S34_1l call m)) rounds)

noncomputable def S34_5 (call : CallF) (t0 : AV) (t5 : AV) (t6 : AV) (h : Heap) : Res :=
  S34_1l call rounds t0 t5 t6 h

theorem TS34_5 (call : CallF) : (rk Tryd.prog call 41 (Code.snd (Code.snd (Code.snd c34)))).1 (finK Tryd.prog Tryd.f34.results.toList) [] (finK Tryd.prog Tryd.f34.results.toList) (fun _ => stuckK) = fun s h => S34_5 call (s.rd 0) (s.rd 5) (s.rd 6) h := Eq.trans (seq_t (by kernel_rfl) (TS34_0 call) (block_t (id := 0) (by kernel_rfl) (TS34_1l call))) (by funext s h; kernel_rfl)

noncomputable def S34_6 (call : CallF) (t0 : AV) (t5 : AV) (h : Heap) : Res :=
  S34_5 call t0 t5 (.lit (.int .i64 0)) h

theorem TS34_6 (call : CallF) : (rk Tryd.prog call 41 (Code.snd (Code.snd c34))).1 (finK Tryd.prog Tryd.f34.results.toList) [] (finK Tryd.prog Tryd.f34.results.toList) (fun _ => stuckK) = fun s h => S34_6 call (s.rd 0) (s.rd 5) h := Eq.trans (seq_t (by kernel_rfl) (TS34_5 call) rfl) (by funext s h; kernel_rfl)

noncomputable def S34_7 (call : CallF) (t0 : AV) (h : Heap) : Res :=
  S34_6 call t0 (.lit (.int .i64 0)) h

theorem TS34_7 (call : CallF) : (rk Tryd.prog call 41 (Code.snd c34)).1 (finK Tryd.prog Tryd.f34.results.toList) [] (finK Tryd.prog Tryd.f34.results.toList) (fun _ => stuckK) = fun s h => S34_7 call (s.rd 0) h := Eq.trans (seq_t (by kernel_rfl) (TS34_6 call) rfl) (by funext s h; kernel_rfl)

/-- hawser/hawserref2.part -/
noncomputable def F34 (call : CallF) (a0 : AV) (h : Heap) : Res :=
  S34_7 call a0 h

theorem TF34 (call : CallF) (a0 : AV) (h : Heap) : (rk Tryd.prog call 41 c34).1 (finK Tryd.prog Tryd.f34.results.toList) [] (finK Tryd.prog Tryd.f34.results.toList) (fun _ => stuckK) (argsTr gl 0 [a0]) h = F34 call a0 h := Eq.trans (congrFun (congrFun (seq_t (by kernel_rfl) (TS34_7 call) rfl) _) _) (by kernel_rfl)

noncomputable def N34 : FnF
  | call, [a0], h => F34 call a0 h
  | _, _, _ => none

theorem N34_ok : FnOk Tryd.prog gl 34 N34 := FnOk.of namesOk mixedOrders lowOk Tryd.func34 (by kernel_rfl) fun call args h r hF => by
  unfold N34 at hF
  split at hF
  · rw [← hF, ← TF34]; exact bodyK_at (by kernel_rfl) (by kernel_rfl) rfl rfl
  · cases hF

noncomputable def c35 : Code := codeOf Tryd.f35

/-- hawser/hawserref2.right -/
noncomputable def F35 (call : CallF) (a0 : AV) (a1 : AV) (h : Heap) : Res :=
  opt2 (call 39 [a0, a1] h) fun t11 h1 =>
  opt (extractX t11 0) fun t12 =>
  opt (extractX t11 1) fun t13 =>
  opt (fastBin .eql t13 (.lit (.int .i64 0))) fun t16 =>
  some ((.tup [t12, t16]), h1)

theorem TF35 (call : CallF) (a0 : AV) (a1 : AV) (h : Heap) : (rk Tryd.prog call 17 c35).1 (finK Tryd.prog Tryd.f35.results.toList) [] (finK Tryd.prog Tryd.f35.results.toList) (fun _ => stuckK) (argsTr gl 0 [a0, a1]) h = F35 call a0 a1 h := by kernel_rfl

noncomputable def N35 : FnF
  | call, [a0, a1], h => F35 call a0 a1 h
  | _, _, _ => none

theorem N35_ok : FnOk Tryd.prog gl 35 N35 := FnOk.of namesOk mixedOrders lowOk Tryd.func35 (by kernel_rfl) fun call args h r hF => by
  unfold N35 at hF
  split at hF
  · rw [← hF, ← TF35]; exact bodyK_at (by kernel_rfl) (by kernel_rfl) rfl rfl
  · cases hF

noncomputable def c37 : Code := codeOf Tryd.f37

/-- hawser/num.part -/
noncomputable def F37 (call : CallF) (a0 : AV) (h : Heap) : Res :=
  opt2 (call 43 [a0] h) fun t5 h1 =>
  opt (binX Tryd.prog .none .eql 40 a0 t5) fun t6 =>
  test t6
  (opt2 (call 44 [a0] h1) fun t9 h2 =>
  opt (binX Tryd.prog .none .leq 40 t9 (.lit (.float .f64 4697254411347427328))) fun t10 =>
  some (t10, h2))
  (some ((.lit (.bool false)), h1))

theorem TF37 (call : CallF) (a0 : AV) (h : Heap) : (rk Tryd.prog call 12 c37).1 (finK Tryd.prog Tryd.f37.results.toList) [] (finK Tryd.prog Tryd.f37.results.toList) (fun _ => stuckK) (argsTr gl 0 [a0]) h = F37 call a0 h := by kernel_rfl

noncomputable def N37 : FnF
  | call, [a0], h => F37 call a0 h
  | _, _, _ => none

theorem N37_ok : FnOk Tryd.prog gl 37 N37 := FnOk.of namesOk mixedOrders lowOk Tryd.func37 (by kernel_rfl) fun call args h r hF => by
  unfold N37 at hF
  split at hF
  · rw [← hF, ← TF37]; exact bodyK_at (by kernel_rfl) (by kernel_rfl) rfl rfl
  · cases hF

noncomputable def c38 : Code := codeOf Tryd.f38

noncomputable def S38_0 (call : CallF) (t5 : AV) (t6 : AV) (h : Heap) : Res :=
  opt (convX Tryd.prog 40 2 t5 h) fun t29 =>
  opt (convX Tryd.prog 40 2 t6 h) fun t31 =>
  opt (convX Tryd.prog 2 40 t29 h) fun t35 =>
  opt (binX Tryd.prog .none .eql 40 t35 t5) fun t37 =>
  test t37
  (opt (convX Tryd.prog 2 40 t31 h) fun t40 =>
  opt (binX Tryd.prog .none .eql 40 t40 t6) fun t42 =>
  some ((.tup [t29, t31, t42]), h))
  (some ((.tup [t29, t31, (.lit (.bool false))]), h))

theorem TS38_0 (call : CallF) : (rk Tryd.prog call 44 (Code.snd (Code.snd (Code.snd (Code.snd c38))))).1 (finK Tryd.prog Tryd.f38.results.toList) [] (finK Tryd.prog Tryd.f38.results.toList) (fun _ => stuckK) = fun s h => S38_0 call (s.rd 5) (s.rd 6) h := by funext s h; kernel_rfl

noncomputable def S38_1 (call : CallF) (t5 : AV) (t6 : AV) (t27 : AV) (h : Heap) : Res :=
  test t27
  (some ((.tup [(.lit (.int .i64 0)), (.lit (.int .i64 0)), (.lit (.bool false))]), h))
  (S38_0 call t5 t6 h)

theorem TS38_1 (call : CallF) : (rk Tryd.prog call 44 (Code.snd (Code.fst (Code.snd (Code.snd (Code.snd c38)))))).1 (fun s h => S38_0 call (s.rd 5) (s.rd 6) h) [] (finK Tryd.prog Tryd.f38.results.toList) (fun _ => stuckK) = fun s h => S38_1 call (s.rd 5) (s.rd 6) (s.rd 27) h := by funext s h; kernel_rfl

noncomputable def S38_2 (call : CallF) (t5 : AV) (t6 : AV) (h : Heap) : Res :=
  opt (binX Tryd.prog .none .geq 40 t5 (.lit (.float .f64 13920626448202203136))) fun t14 =>
  test t14
  (opt (binX Tryd.prog .none .leq 40 t5 (.lit (.float .f64 4697254411347427328))) fun t17 =>
  test t17
  (opt (binX Tryd.prog .none .geq 40 t6 (.lit (.float .f64 13920626448202203136))) fun t21 =>
  test t21
  (opt (binX Tryd.prog .none .leq 40 t6 (.lit (.float .f64 4697254411347427328))) fun t25 =>
  opt (notX t25) fun t27 =>
  S38_1 call t5 t6 t27 h)
  (opt (notX (.lit (.bool false))) fun t27_1 =>
  S38_1 call t5 t6 t27_1 h))
  (opt (notX (.lit (.bool false))) fun t27_2 =>
  S38_1 call t5 t6 t27_2 h))
  (opt (notX (.lit (.bool false))) fun t27_3 =>
  S38_1 call t5 t6 t27_3 h)

theorem TS38_2 (call : CallF) : (rk Tryd.prog call 44 (Code.snd (Code.snd (Code.snd c38)))).1 (finK Tryd.prog Tryd.f38.results.toList) [] (finK Tryd.prog Tryd.f38.results.toList) (fun _ => stuckK) = fun s h => S38_2 call (s.rd 5) (s.rd 6) h := Eq.trans (seq_t (by kernel_rfl) (TS38_0 call) (seq_t (by kernel_rfl) (TS38_1 call) rfl)) (by funext s h; kernel_rfl)

noncomputable def S38_3 (call : CallF) (t0 : AV) (t5 : AV) (h : Heap) : Res :=
  opt (litBi Tryd.prog .imag [22] 40 [false] [t0]) fun t12 =>
  S38_2 call t5 t12 h

theorem TS38_3 (call : CallF) : (rk Tryd.prog call 44 (Code.snd (Code.snd c38))).1 (finK Tryd.prog Tryd.f38.results.toList) [] (finK Tryd.prog Tryd.f38.results.toList) (fun _ => stuckK) = fun s h => S38_3 call (s.rd 0) (s.rd 5) h := Eq.trans (seq_t (by kernel_rfl) (TS38_2 call) rfl) (by funext s h; kernel_rfl)

noncomputable def S38_4 (call : CallF) (t0 : AV) (h : Heap) : Res :=
  opt (litBi Tryd.prog .real [22] 40 [false] [t0]) fun t10 =>
  S38_3 call t0 t10 h

theorem TS38_4 (call : CallF) : (rk Tryd.prog call 44 (Code.snd c38)).1 (finK Tryd.prog Tryd.f38.results.toList) [] (finK Tryd.prog Tryd.f38.results.toList) (fun _ => stuckK) = fun s h => S38_4 call (s.rd 0) h := Eq.trans (seq_t (by kernel_rfl) (TS38_3 call) rfl) (by funext s h; kernel_rfl)

/-- hawser/hawserref2.Parts -/
noncomputable def F38 (call : CallF) (a0 : AV) (h : Heap) : Res :=
  S38_4 call a0 h

theorem TF38 (call : CallF) (a0 : AV) (h : Heap) : (rk Tryd.prog call 44 c38).1 (finK Tryd.prog Tryd.f38.results.toList) [] (finK Tryd.prog Tryd.f38.results.toList) (fun _ => stuckK) (argsTr gl 0 [a0]) h = F38 call a0 h := Eq.trans (congrFun (congrFun (seq_t (by kernel_rfl) (TS38_4 call) rfl) _) _) (by kernel_rfl)

noncomputable def N38 : FnF
  | call, [a0], h => F38 call a0 h
  | _, _, _ => none

theorem N38_ok : FnOk Tryd.prog gl 38 N38 := FnOk.of namesOk mixedOrders lowOk Tryd.func38 (by kernel_rfl) fun call args h r hF => by
  unfold N38 at hF
  split at hF
  · rw [← hF, ← TF38]; exact bodyK_at (by kernel_rfl) (by kernel_rfl) rfl rfl
  · cases hF

noncomputable def c39 : Code := codeOf Tryd.f39

/-- hawser/hawserref2.made -/
noncomputable def F39 (call : CallF) (a0 : AV) (a1 : AV) (h : Heap) : Res :=
  opt2 (call 45 [a0, a1] h) fun t9 h1 =>
  opt2 (call 27 [t9] h1) fun t11 h2 =>
  opt (notX t11) fun t12 =>
  test t12
  (some ((.tup [(.lit (.complex .f64 0 0)), (.lit (.int .i64 44))]), h2))
  (some ((.tup [t9, (.lit (.int .i64 0))]), h2))

theorem TF39 (call : CallF) (a0 : AV) (a1 : AV) (h : Heap) : (rk Tryd.prog call 14 c39).1 (finK Tryd.prog Tryd.f39.results.toList) [] (finK Tryd.prog Tryd.f39.results.toList) (fun _ => stuckK) (argsTr gl 0 [a0, a1]) h = F39 call a0 a1 h := by kernel_rfl

noncomputable def N39 : FnF
  | call, [a0, a1], h => F39 call a0 a1 h
  | _, _, _ => none

theorem N39_ok : FnOk Tryd.prog gl 39 N39 := FnOk.of namesOk mixedOrders lowOk Tryd.func39 (by kernel_rfl) fun call args h r hF => by
  unfold N39 at hF
  split at hF
  · rw [← hF, ← TF39]; exact bodyK_at (by kernel_rfl) (by kernel_rfl) rfl rfl
  · cases hF

noncomputable def c40 : Code := codeOf Tryd.f40

noncomputable def S40_0 (call : CallF) (t3 : AV) (h : Heap) : Res :=
  some (t3, h)

theorem TS40_0 (call : CallF) : (rk Tryd.prog call 28 (Code.snd (Code.snd (Code.snd (Code.snd c40))))).1 (finK Tryd.prog Tryd.f40.results.toList) [] (finK Tryd.prog Tryd.f40.results.toList) (fun _ => stuckK) = fun s h => S40_0 call (s.rd 3) h := by funext s h; kernel_rfl

noncomputable def S40_2 (call : CallF) (r1 : AV → AV → Heap → Res) (t0 : AV) (t3 : AV) (h : Heap) : Res :=
  opt (binX Tryd.prog .none .rem 2 t0 (.lit (.int .i64 10))) fun t18 =>
  opt (fastBin .add t18 (.lit (.int .i64 1))) fun t21 =>
  opt (fastCut (.lit (.string ⟨⟨[48, 49, 50, 51, 52, 53, 54, 55, 56, 57]⟩⟩)) (some t18) (some t21) none) fun t22 =>
  opt (fastBin .add t22 t3) fun t24 =>
  opt (binX Tryd.prog .none .quo 2 t0 (.lit (.int .i64 10))) fun t26 =>
  r1 t26 t24 h

theorem TS40_2 (call : CallF) (r1 : AV → AV → Heap → Res) : (rk Tryd.prog call 28 (Code.snd (Code.bd (Code.bd (Code.fst (Code.snd (Code.snd (Code.snd c40)))))))).1 (fun s h => r1 (s.rd 0) (s.rd 3) h) [(0, (fun s h => S40_0 call (s.rd 3) h))] (finK Tryd.prog Tryd.f40.results.toList) (fun _ => stuckK) = fun s h => S40_2 call r1 (s.rd 0) (s.rd 3) h := by funext s h; kernel_rfl

noncomputable def S40_3b (call : CallF) (r1 : AV → AV → Heap → Res) (t0 : AV) (t3 : AV) (h : Heap) : Res :=
  opt (fastBin .gtr t0 (.lit (.int .i64 0))) fun t12 =>
  test t12
  (S40_2 call r1 t0 t3 h)
  (opt (fastBin .eql t3 (.lit (.string ⟨⟨[]⟩⟩))) fun t15 =>
  test t15
  (S40_2 call r1 t0 t3 h)
  (S40_0 call t3 h))

theorem TS40_3b (call : CallF) (r1 : AV → AV → Heap → Res) : (rk Tryd.prog call 28 (Code.bd (Code.bd (Code.fst (Code.snd (Code.snd (Code.snd c40))))))).1 (fun s h => r1 (s.rd 0) (s.rd 3) h) [(0, (fun s h => S40_0 call (s.rd 3) h))] (finK Tryd.prog Tryd.f40.results.toList) (fun _ => stuckK) = fun s h => S40_3b call r1 (s.rd 0) (s.rd 3) h := Eq.trans (seq_t (by kernel_rfl) (TS40_2 call r1) rfl) (by funext s h; kernel_rfl)

noncomputable def S40_1l (call : CallF) : Nat → AV → AV → Heap → Res
  | 0 => fun _ _ _ => none
  | k + 1 => S40_3b call (S40_1l call k)

theorem TS40_1l (call : CallF) : (rk Tryd.prog call 28 (Code.bd (Code.fst (Code.snd (Code.snd (Code.snd c40)))))).1 (fun s h => S40_0 call (s.rd 3) h) [(0, (fun s h => S40_0 call (s.rd 3) h))] (finK Tryd.prog Tryd.f40.results.toList) (fun _ => stuckK) = fun s h => S40_1l call rounds (s.rd 0) (s.rd 3) h :=
  loop_t (by kernel_rfl) (loop_ind (A := fun m => fun s h => S40_1l call m (s.rd 0) (s.rd 3) h) rfl (fun m => TS40_3b call (S40_1l call m)) rounds)

noncomputable def S40_4 (call : CallF) (t0 : AV) (t3 : AV) (h : Heap) : Res :=
  S40_1l call rounds t0 t3 h

theorem TS40_4 (call : CallF) : (rk Tryd.prog call 28 (Code.snd (Code.snd (Code.snd c40)))).1 (finK Tryd.prog Tryd.f40.results.toList) [] (finK Tryd.prog Tryd.f40.results.toList) (fun _ => stuckK) = fun s h => S40_4 call (s.rd 0) (s.rd 3) h := Eq.trans (seq_t (by kernel_rfl) (TS40_0 call) (block_t (id := 0) (by kernel_rfl) (TS40_1l call))) (by funext s h; kernel_rfl)

noncomputable def S40_5 (call : CallF) (t0 : AV) (h : Heap) : Res :=
  S40_4 call t0 (.lit (.string ⟨⟨[]⟩⟩)) h

theorem TS40_5 (call : CallF) : (rk Tryd.prog call 28 (Code.snd (Code.snd c40))).1 (finK Tryd.prog Tryd.f40.results.toList) [] (finK Tryd.prog Tryd.f40.results.toList) (fun _ => stuckK) = fun s h => S40_5 call (s.rd 0) h := Eq.trans (seq_t (by kernel_rfl) (TS40_4 call) rfl) (by funext s h; kernel_rfl)

noncomputable def S40_6 (call : CallF) (t0 : AV) (h : Heap) : Res :=
  opt (fastBin .lss t0 (.lit (.int .i64 0))) fun t6 =>
  test t6
  (opt (litUn Tryd.prog .neg t0) fun t8 =>
  opt2 (call 40 [t8] h) fun t9 h1 =>
  opt (fastBin .add (.lit (.string ⟨⟨[45]⟩⟩)) t9) fun t10 =>
  some (t10, h1))
  (S40_5 call t0 h)

theorem TS40_6 (call : CallF) : (rk Tryd.prog call 28 (Code.snd c40)).1 (finK Tryd.prog Tryd.f40.results.toList) [] (finK Tryd.prog Tryd.f40.results.toList) (fun _ => stuckK) = fun s h => S40_6 call (s.rd 0) h := Eq.trans (seq_t (by kernel_rfl) (TS40_5 call) rfl) (by funext s h; kernel_rfl)

/-- hawser/hawserref2.digits -/
noncomputable def F40 (call : CallF) (a0 : AV) (h : Heap) : Res :=
  S40_6 call a0 h

theorem TF40 (call : CallF) (a0 : AV) (h : Heap) : (rk Tryd.prog call 28 c40).1 (finK Tryd.prog Tryd.f40.results.toList) [] (finK Tryd.prog Tryd.f40.results.toList) (fun _ => stuckK) (argsTr gl 0 [a0]) h = F40 call a0 h := Eq.trans (congrFun (congrFun (seq_t (by kernel_rfl) (TS40_6 call) rfl) _) _) (by kernel_rfl)

noncomputable def N40 : FnF
  | call, [a0], h => F40 call a0 h
  | _, _, _ => none

theorem N40_ok : FnOk Tryd.prog gl 40 N40 := FnOk.of namesOk mixedOrders lowOk Tryd.func40 (by kernel_rfl) fun call args h r hF => by
  unfold N40 at hF
  split at hF
  · rw [← hF, ← TF40]; exact bodyK_at (by kernel_rfl) (by kernel_rfl) rfl rfl
  · cases hF

noncomputable def c41 : Code := codeOf Tryd.f41

/-- internal/stringslite.CutPrefix -/
noncomputable def F41 (call : CallF) (a0 : AV) (a1 : AV) (h : Heap) : Res :=
  opt2 (call 46 [a0, a1] h) fun t8 h1 =>
  opt (notX t8) fun t9 =>
  test t9
  (some ((.tup [a0, (.lit (.bool false))]), h1))
  (opt (lenStr a1) fun t13 =>
  opt (fastCut a0 (some t13) none none) fun t14 =>
  some ((.tup [t14, (.lit (.bool true))]), h1))

theorem TF41 (call : CallF) (a0 : AV) (a1 : AV) (h : Heap) : (rk Tryd.prog call 15 c41).1 (finK Tryd.prog Tryd.f41.results.toList) [] (finK Tryd.prog Tryd.f41.results.toList) (fun _ => stuckK) (argsTr gl 0 [a0, a1]) h = F41 call a0 a1 h := by kernel_rfl

noncomputable def N41 : FnF
  | call, [a0, a1], h => F41 call a0 a1 h
  | _, _, _ => none

theorem N41_ok : FnOk Tryd.prog gl 41 N41 := FnOk.of namesOk mixedOrders lowOk Tryd.func41 (by kernel_rfl) fun call args h r hF => by
  unfold N41 at hF
  split at hF
  · rw [← hF, ← TF41]; exact bodyK_at (by kernel_rfl) (by kernel_rfl) rfl rfl
  · cases hF

noncomputable def c43 : Code := codeOf Tryd.f43

/-- math.Trunc -/
noncomputable def F43 (call : CallF) (a0 : AV) (h : Heap) : Res :=
  opt (litCall Tryd.prog [a0] 48) fun t4 =>
  some (t4, h)

theorem TF43 (call : CallF) (a0 : AV) (h : Heap) : (rk Tryd.prog call 7 c43).1 (finK Tryd.prog Tryd.f43.results.toList) [] (finK Tryd.prog Tryd.f43.results.toList) (fun _ => stuckK) (argsTr gl 0 [a0]) h = F43 call a0 h := by kernel_rfl

noncomputable def N43 : FnF
  | call, [a0], h => F43 call a0 h
  | _, _, _ => none

theorem N43_ok : FnOk Tryd.prog gl 43 N43 := FnOk.of namesOk mixedOrders lowOk Tryd.func43 (by kernel_rfl) fun call args h r hF => by
  unfold N43 at hF
  split at hF
  · rw [← hF, ← TF43]; exact bodyK_at (by kernel_rfl) (by kernel_rfl) rfl rfl
  · cases hF

noncomputable def c44 : Code := codeOf Tryd.f44

/-- math.Abs -/
noncomputable def F44 (call : CallF) (a0 : AV) (h : Heap) : Res :=
  opt (litCall Tryd.prog [a0] 51) fun t4 =>
  opt (binX Tryd.prog .none .andNot 69 t4 (.lit (.int .u64 9223372036854775808))) fun t5 =>
  opt (litCall Tryd.prog [t5] 50) fun t6 =>
  some (t6, h)

theorem TF44 (call : CallF) (a0 : AV) (h : Heap) : (rk Tryd.prog call 7 c44).1 (finK Tryd.prog Tryd.f44.results.toList) [] (finK Tryd.prog Tryd.f44.results.toList) (fun _ => stuckK) (argsTr gl 0 [a0]) h = F44 call a0 h := by kernel_rfl

noncomputable def N44 : FnF
  | call, [a0], h => F44 call a0 h
  | _, _, _ => none

theorem N44_ok : FnOk Tryd.prog gl 44 N44 := FnOk.of namesOk mixedOrders lowOk Tryd.func44 (by kernel_rfl) fun call args h r hF => by
  unfold N44 at hF
  split at hF
  · rw [← hF, ← TF44]; exact bodyK_at (by kernel_rfl) (by kernel_rfl) rfl rfl
  · cases hF

noncomputable def c45 : Code := codeOf Tryd.f45

/-- hawser/hawserref2.Of -/
noncomputable def F45 (call : CallF) (a0 : AV) (a1 : AV) (h : Heap) : Res :=
  opt (convX Tryd.prog 2 40 a0 h) fun t6 =>
  opt (convX Tryd.prog 2 40 a1 h) fun t8 =>
  opt (litBi Tryd.prog .complex [40, 40] 22 [false, false] [t6, t8]) fun t9 =>
  some (t9, h)

theorem TF45 (call : CallF) (a0 : AV) (a1 : AV) (h : Heap) : (rk Tryd.prog call 10 c45).1 (finK Tryd.prog Tryd.f45.results.toList) [] (finK Tryd.prog Tryd.f45.results.toList) (fun _ => stuckK) (argsTr gl 0 [a0, a1]) h = F45 call a0 a1 h := by kernel_rfl

noncomputable def N45 : FnF
  | call, [a0, a1], h => F45 call a0 a1 h
  | _, _, _ => none

theorem N45_ok : FnOk Tryd.prog gl 45 N45 := FnOk.of namesOk mixedOrders lowOk Tryd.func45 (by kernel_rfl) fun call args h r hF => by
  unfold N45 at hF
  split at hF
  · rw [← hF, ← TF45]; exact bodyK_at (by kernel_rfl) (by kernel_rfl) rfl rfl
  · cases hF

noncomputable def c46 : Code := codeOf Tryd.f46

/-- internal/stringslite.HasPrefix -/
noncomputable def F46 (call : CallF) (a0 : AV) (a1 : AV) (h : Heap) : Res :=
  opt (lenStr a0) fun t6 =>
  opt (lenStr a1) fun t8 =>
  opt (fastBin .geq t6 t8) fun t9 =>
  test t9
  (opt (lenStr a1) fun t13 =>
  opt (fastCut a0 none (some t13) none) fun t14 =>
  opt (fastBin .eql t14 a1) fun t16 =>
  some (t16, h))
  (some ((.lit (.bool false)), h))

theorem TF46 (call : CallF) (a0 : AV) (a1 : AV) (h : Heap) : (rk Tryd.prog call 18 c46).1 (finK Tryd.prog Tryd.f46.results.toList) [] (finK Tryd.prog Tryd.f46.results.toList) (fun _ => stuckK) (argsTr gl 0 [a0, a1]) h = F46 call a0 a1 h := by kernel_rfl

noncomputable def N46 : FnF
  | call, [a0, a1], h => F46 call a0 a1 h
  | _, _, _ => none

theorem N46_ok : FnOk Tryd.prog gl 46 N46 := FnOk.of namesOk mixedOrders lowOk Tryd.func46 (by kernel_rfl) fun call args h r hF => by
  unfold N46 at hF
  split at hF
  · rw [← hF, ← TF46]; exact bodyK_at (by kernel_rfl) (by kernel_rfl) rfl rfl
  · cases hF

-- NOT PRINTED 48: no body

noncomputable def c49 : Code := codeOf Tryd.f49

noncomputable def S49_0 (call : CallF) (t3 : AV) (h : Heap) : Res :=
  opt (litCall Tryd.prog [t3] 50) fun t25 =>
  some (t25, h)

theorem TS49_0 (call : CallF) : (rk Tryd.prog call 26 (Code.snd (Code.snd (Code.snd (Code.snd (Code.snd c49)))))).1 (finK Tryd.prog Tryd.f49.results.toList) [] (finK Tryd.prog Tryd.f49.results.toList) (fun _ => stuckK) = fun s h => S49_0 call (s.rd 3) h := by funext s h; kernel_rfl

noncomputable def S49_1 (call : CallF) (t3 : AV) (t4 : AV) (h : Heap) : Res :=
  opt (fastBin .lss t4 (.lit (.int .u64 52))) fun t17 =>
  test t17
  (opt (fastBin .sub (.lit (.int .u64 52)) t4) fun t20 =>
  opt (binX Tryd.prog .none .shl 69 (.lit (.int .u64 1)) t20) fun t21 =>
  opt (fastBin .sub t21 (.lit (.int .u64 1))) fun t22 =>
  opt (binX Tryd.prog .none .andNot 69 t3 t22) fun t23 =>
  S49_0 call t23 h)
  (S49_0 call t3 h)

theorem TS49_1 (call : CallF) : (rk Tryd.prog call 26 (Code.snd (Code.snd (Code.snd (Code.snd c49))))).1 (finK Tryd.prog Tryd.f49.results.toList) [] (finK Tryd.prog Tryd.f49.results.toList) (fun _ => stuckK) = fun s h => S49_1 call (s.rd 3) (s.rd 4) h := Eq.trans (seq_t (by kernel_rfl) (TS49_0 call) rfl) (by funext s h; kernel_rfl)

noncomputable def S49_2 (call : CallF) (t3 : AV) (h : Heap) : Res :=
  opt (binX Tryd.prog .none .shr 69 t3 (.lit (.int .u64 52))) fun t13 =>
  opt (binX Tryd.prog .none .and 78 t13 (.lit (.int .u64 2047))) fun t14 =>
  opt (fastBin .sub t14 (.lit (.int .u64 1023))) fun t15 =>
  S49_1 call t3 t15 h

theorem TS49_2 (call : CallF) : (rk Tryd.prog call 26 (Code.snd (Code.snd (Code.snd c49)))).1 (finK Tryd.prog Tryd.f49.results.toList) [] (finK Tryd.prog Tryd.f49.results.toList) (fun _ => stuckK) = fun s h => S49_2 call (s.rd 3) h := Eq.trans (seq_t (by kernel_rfl) (TS49_1 call) rfl) (by funext s h; kernel_rfl)

noncomputable def S49_3 (call : CallF) (t0 : AV) (h : Heap) : Res :=
  opt (litCall Tryd.prog [t0] 51) fun t11 =>
  S49_2 call t11 h

theorem TS49_3 (call : CallF) : (rk Tryd.prog call 26 (Code.snd (Code.snd c49))).1 (finK Tryd.prog Tryd.f49.results.toList) [] (finK Tryd.prog Tryd.f49.results.toList) (fun _ => stuckK) = fun s h => S49_3 call (s.rd 0) h := Eq.trans (seq_t (by kernel_rfl) (TS49_2 call) rfl) (by funext s h; kernel_rfl)

noncomputable def S49_4 (call : CallF) (t0 : AV) (h : Heap) : Res :=
  opt2 (call 44 [t0] h) fun t6 h1 =>
  opt (binX Tryd.prog .none .lss 40 t6 (.lit (.float .f64 4607182418800017408))) fun t7 =>
  test t7
  (opt2 (call 56 [(.lit (.float .f64 0)), t0] h1) fun t9 h2 =>
  some (t9, h2))
  (S49_3 call t0 h1)

theorem TS49_4 (call : CallF) : (rk Tryd.prog call 26 (Code.snd c49)).1 (finK Tryd.prog Tryd.f49.results.toList) [] (finK Tryd.prog Tryd.f49.results.toList) (fun _ => stuckK) = fun s h => S49_4 call (s.rd 0) h := Eq.trans (seq_t (by kernel_rfl) (TS49_3 call) rfl) (by funext s h; kernel_rfl)

/-- math.trunc -/
noncomputable def F49 (call : CallF) (a0 : AV) (h : Heap) : Res :=
  S49_4 call a0 h

theorem TF49 (call : CallF) (a0 : AV) (h : Heap) : (rk Tryd.prog call 26 c49).1 (finK Tryd.prog Tryd.f49.results.toList) [] (finK Tryd.prog Tryd.f49.results.toList) (fun _ => stuckK) (argsTr gl 0 [a0]) h = F49 call a0 h := Eq.trans (congrFun (congrFun (seq_t (by kernel_rfl) (TS49_4 call) rfl) _) _) (by kernel_rfl)

noncomputable def N49 : FnF
  | call, [a0], h => F49 call a0 h
  | _, _, _ => none

theorem N49_ok : FnOk Tryd.prog gl 49 N49 := FnOk.of namesOk mixedOrders lowOk Tryd.func49 (by kernel_rfl) fun call args h r hF => by
  unfold N49 at hF
  split at hF
  · rw [← hF, ← TF49]; exact bodyK_at (by kernel_rfl) (by kernel_rfl) rfl rfl
  · cases hF

-- NOT PRINTED 50: no body

-- NOT PRINTED 51: no body

noncomputable def c56 : Code := codeOf Tryd.f56

/-- math.Copysign -/
noncomputable def F56 (call : CallF) (a0 : AV) (a1 : AV) (h : Heap) : Res :=
  opt (litCall Tryd.prog [a0] 51) fun t6 =>
  opt (binX Tryd.prog .none .andNot 69 t6 (.lit (.int .u64 9223372036854775808))) fun t7 =>
  opt (litCall Tryd.prog [a1] 51) fun t9 =>
  opt (binX Tryd.prog .none .and 69 t9 (.lit (.int .u64 9223372036854775808))) fun t10 =>
  opt (binX Tryd.prog .none .or 69 t7 t10) fun t11 =>
  opt (litCall Tryd.prog [t11] 50) fun t12 =>
  some (t12, h)

theorem TF56 (call : CallF) (a0 : AV) (a1 : AV) (h : Heap) : (rk Tryd.prog call 13 c56).1 (finK Tryd.prog Tryd.f56.results.toList) [] (finK Tryd.prog Tryd.f56.results.toList) (fun _ => stuckK) (argsTr gl 0 [a0, a1]) h = F56 call a0 a1 h := by kernel_rfl

noncomputable def N56 : FnF
  | call, [a0, a1], h => F56 call a0 a1 h
  | _, _, _ => none

theorem N56_ok : FnOk Tryd.prog gl 56 N56 := FnOk.of namesOk mixedOrders lowOk Tryd.func56 (by kernel_rfl) fun call args h r hF => by
  unfold N56 at hF
  split at hF
  · rw [← hF, ← TF56]; exact bodyK_at (by kernel_rfl) (by kernel_rfl) rfl rfl
  · cases hF

end Go.Proofs.YthammkbenflchaaDoor
