import Derived.Test.YtomjidlkaocmkaaGreatTb91
import Derived.Test.YtomjidlkaocmkaaGreatTb92
import Derived.Test.YtomjidlkaocmkaaGreatTb93
import Derived.Test.YtomjidlkaocmkaaGreatTb94
namespace Go.Proofs.YtomjidlkaocmkaaGreat
open Go.Am
set_option maxRecDepth 100000
def rows10 : List (List AV × AV) := [(a10_0, b10_0), (a10_1, b10_1), (a10_2, b10_2), (a10_3, b10_3), (a10_4, b10_4), (a10_5, b10_5), (a10_6, b10_6), (a10_7, b10_7), (a10_8, b10_8), (a10_9, b10_9)]
theorem rows10_ok : AllR senv 390 10 rows10 := ⟨r10_0, r10_1, r10_2, r10_3, r10_4, r10_5, r10_6, r10_7, r10_8, r10_9, trivial⟩
noncomputable def env1 : SEnv := senv.withP 10 (tableP rows10)
theorem env1_ok : SEnvOk env1 := SEnvOk.withP senv_ok (stable_ok (E := senv) senv_ok rows10_ok.all)
end Go.Proofs.YtomjidlkaocmkaaGreat
