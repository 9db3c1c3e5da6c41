import Derived.Test.YtifeckgncimonaaGreatDoorTb61
import Derived.Test.YtifeckgncimonaaGreatDoorTb62
import Derived.Test.YtifeckgncimonaaGreatDoorTb63
import Derived.Test.YtifeckgncimonaaGreatDoorTb64
namespace Go.Proofs.YtifeckgncimonaaGreatDoor
open Go.Am
set_option maxRecDepth 100000
def rows7 : List (List AV × AV) := [(a7_0, b7_0), (a7_1, b7_1), (a7_2, b7_2), (a7_3, b7_3), (a7_4, b7_4), (a7_5, b7_5), (a7_6, b7_6), (a7_7, b7_7), (a7_8, b7_8), (a7_9, b7_9), (a7_10, b7_10), (a7_11, b7_11), (a7_12, b7_12), (a7_13, b7_13), (a7_14, b7_14), (a7_15, b7_15), (a7_16, b7_16), (a7_17, b7_17), (a7_18, b7_18), (a7_19, b7_19), (a7_20, b7_20)]
theorem rows7_ok : AllR senv 390 7 rows7 := ⟨r7_0, r7_1, r7_2, r7_3, r7_4, r7_5, r7_6, r7_7, r7_8, r7_9, r7_10, r7_11, r7_12, r7_13, r7_14, r7_15, r7_16, r7_17, r7_18, r7_19, r7_20, trivial⟩
noncomputable def env1 : SEnv := senv.withP 7 (tableP rows7)
theorem env1_ok : SEnvOk env1 := SEnvOk.withP senv_ok (stable_ok (E := senv) senv_ok rows7_ok.all)
def rows8 : List (List AV × AV) := [(a8_0, b8_0)]
theorem rows8_ok : AllR senv 390 8 rows8 := ⟨r8_0, trivial⟩
noncomputable def env2 : SEnv := env1.withP 8 (tableP rows8)
theorem env2_ok : SEnvOk env2 := SEnvOk.withP env1_ok (stable_ok (E := senv) senv_ok rows8_ok.all)
def rows6 : List (List AV × AV) := [(a6_0, b6_0), (a6_1, b6_1), (a6_2, b6_2), (a6_3, b6_3), (a6_4, b6_4), (a6_5, b6_5), (a6_6, b6_6), (a6_7, b6_7), (a6_8, b6_8), (a6_9, b6_9), (a6_10, b6_10), (a6_11, b6_11), (a6_12, b6_12), (a6_13, b6_13), (a6_14, b6_14), (a6_15, b6_15), (a6_16, b6_16), (a6_17, b6_17), (a6_18, b6_18), (a6_19, b6_19), (a6_20, b6_20), (a6_21, b6_21), (a6_22, b6_22)]
theorem rows6_ok : AllR senv 390 6 rows6 := ⟨r6_0, r6_1, r6_2, r6_3, r6_4, r6_5, r6_6, r6_7, r6_8, r6_9, r6_10, r6_11, r6_12, r6_13, r6_14, r6_15, r6_16, r6_17, r6_18, r6_19, r6_20, r6_21, r6_22, trivial⟩
noncomputable def env3 : SEnv := env2.withP 6 (tableP rows6)
theorem env3_ok : SEnvOk env3 := SEnvOk.withP env2_ok (stable_ok (E := senv) senv_ok rows6_ok.all)
end Go.Proofs.YtifeckgncimonaaGreatDoor
