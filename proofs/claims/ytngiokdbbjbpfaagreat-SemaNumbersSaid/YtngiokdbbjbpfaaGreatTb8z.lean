import Derived.Test.YtngiokdbbjbpfaaGreatTb81
import Derived.Test.YtngiokdbbjbpfaaGreatTb82
import Derived.Test.YtngiokdbbjbpfaaGreatTb83
import Derived.Test.YtngiokdbbjbpfaaGreatTb84
namespace Go.Proofs.YtngiokdbbjbpfaaGreat
open Go.Am
set_option maxRecDepth 100000
def rows7 : List (List AV × AV) := [(a7_0, b7_0), (a7_1, b7_1), (a7_2, b7_2), (a7_3, b7_3), (a7_4, b7_4), (a7_5, b7_5), (a7_6, b7_6), (a7_7, b7_7), (a7_8, b7_8), (a7_9, b7_9), (a7_10, b7_10), (a7_11, b7_11), (a7_12, b7_12), (a7_13, b7_13), (a7_14, b7_14), (a7_15, b7_15), (a7_16, b7_16), (a7_17, b7_17), (a7_18, b7_18), (a7_19, b7_19), (a7_20, b7_20), (a7_21, b7_21), (a7_22, b7_22), (a7_23, b7_23), (a7_24, b7_24), (a7_25, b7_25), (a7_26, b7_26), (a7_27, b7_27), (a7_28, b7_28)]
theorem rows7_ok : AllR senv 390 7 rows7 := ⟨r7_0, r7_1, r7_2, r7_3, r7_4, r7_5, r7_6, r7_7, r7_8, r7_9, r7_10, r7_11, r7_12, r7_13, r7_14, r7_15, r7_16, r7_17, r7_18, r7_19, r7_20, r7_21, r7_22, r7_23, r7_24, r7_25, r7_26, r7_27, r7_28, trivial⟩
noncomputable def env1 : SEnv := senv.withP 7 (tableP rows7)
theorem env1_ok : SEnvOk env1 := SEnvOk.withP senv_ok (stable_ok (E := senv) senv_ok rows7_ok.all)
def rows8 : List (List AV × AV) := [(a8_0, b8_0), (a8_1, b8_1), (a8_2, b8_2), (a8_3, b8_3), (a8_4, b8_4), (a8_5, b8_5), (a8_6, b8_6), (a8_7, b8_7), (a8_8, b8_8), (a8_9, b8_9), (a8_10, b8_10), (a8_11, b8_11), (a8_12, b8_12), (a8_13, b8_13), (a8_14, b8_14), (a8_15, b8_15), (a8_16, b8_16), (a8_17, b8_17), (a8_18, b8_18), (a8_19, b8_19), (a8_20, b8_20), (a8_21, b8_21), (a8_22, b8_22), (a8_23, b8_23), (a8_24, b8_24), (a8_25, b8_25), (a8_26, b8_26), (a8_27, b8_27), (a8_28, b8_28)]
theorem rows8_ok : AllR senv 390 8 rows8 := ⟨r8_0, r8_1, r8_2, r8_3, r8_4, r8_5, r8_6, r8_7, r8_8, r8_9, r8_10, r8_11, r8_12, r8_13, r8_14, r8_15, r8_16, r8_17, r8_18, r8_19, r8_20, r8_21, r8_22, r8_23, r8_24, r8_25, r8_26, r8_27, r8_28, trivial⟩
noncomputable def env2 : SEnv := env1.withP 8 (tableP rows8)
theorem env2_ok : SEnvOk env2 := SEnvOk.withP env1_ok (stable_ok (E := senv) senv_ok rows8_ok.all)
def rows9 : List (List AV × AV) := [(a9_0, b9_0), (a9_1, b9_1), (a9_2, b9_2), (a9_3, b9_3), (a9_4, b9_4), (a9_5, b9_5), (a9_6, b9_6), (a9_7, b9_7), (a9_8, b9_8), (a9_9, b9_9), (a9_10, b9_10), (a9_11, b9_11), (a9_12, b9_12), (a9_13, b9_13), (a9_14, b9_14), (a9_15, b9_15), (a9_16, b9_16), (a9_17, b9_17), (a9_18, b9_18), (a9_19, b9_19), (a9_20, b9_20), (a9_21, b9_21), (a9_22, b9_22), (a9_23, b9_23), (a9_24, b9_24)]
theorem rows9_ok : AllR senv 390 9 rows9 := ⟨r9_0, r9_1, r9_2, r9_3, r9_4, r9_5, r9_6, r9_7, r9_8, r9_9, r9_10, r9_11, r9_12, r9_13, r9_14, r9_15, r9_16, r9_17, r9_18, r9_19, r9_20, r9_21, r9_22, r9_23, r9_24, trivial⟩
noncomputable def env3 : SEnv := env2.withP 9 (tableP rows9)
theorem env3_ok : SEnvOk env3 := SEnvOk.withP env2_ok (stable_ok (E := senv) senv_ok rows9_ok.all)
def rows11 : List (List AV × AV) := [(a11_0, b11_0)]
theorem rows11_ok : AllR senv 390 11 rows11 := ⟨r11_0, trivial⟩
noncomputable def env4 : SEnv := env3.withP 11 (tableP rows11)
theorem env4_ok : SEnvOk env4 := SEnvOk.withP env3_ok (stable_ok (E := senv) senv_ok rows11_ok.all)
end Go.Proofs.YtngiokdbbjbpfaaGreat
