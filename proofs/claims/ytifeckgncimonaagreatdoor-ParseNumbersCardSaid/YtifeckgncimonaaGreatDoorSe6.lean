import Derived.Test.YtifeckgncimonaaGreatDoorAmO
import Derived.Test.YtifeckgncimonaaGreatDoorG61
import Derived.Test.YtifeckgncimonaaGreatDoorG62
import Derived.Test.YtifeckgncimonaaGreatDoorG63
namespace Go.Proofs.YtifeckgncimonaaGreatDoor
open Go.Am
set_option maxRecDepth 100000

noncomputable def fnsT : TabT := .node 101 (.node 53 (.node 19 (.node 14 (.node 7 (.node 6 (.one 3 .alone N3) (.one 6 .alone N6)) (.node 8 (.one 7 .alone N7) (.node 13 (.one 8 .alone N8) (.one 13 .alone N13)))) (.node 16 (.node 15 (.one 14 .alone N14) (.one 15 .alone N15)) (.node 17 (.one 16 .alone N16) (.node 18 (.one 17 .alone N17) (.one 18 .alone N18))))) (.node 24 (.node 21 (.node 20 (.one 19 .alone N19) (.one 20 .alone N20)) (.node 22 (.one 21 .alone N21) (.node 23 (.one 22 .alone N22) (.one 23 .alone N23)))) (.node 50 (.node 48 (.one 24 .alone N24) (.node 49 (.one 48 .alone N48) (.one 49 .raw N49))) (.node 51 (.one 50 .alone N50) (.node 52 (.one 51 .alone N51) (.one 52 .alone N52)))))) (.node 64 (.node 58 (.node 55 (.node 54 (.one 53 .alone N53) (.one 54 .alone N54)) (.node 56 (.one 55 .alone N55) (.node 57 (.one 56 .alone N56) (.one 57 .alone N57)))) (.node 61 (.node 59 (.one 58 .alone N58) (.node 60 (.one 59 .alone N59) (.one 60 .alone N60))) (.node 62 (.one 61 .alone N61) (.node 63 (.one 62 .alone N62) (.one 63 .alone N63))))) (.node 69 (.node 66 (.node 65 (.one 64 .alone N64) (.one 65 .alone N65)) (.node 67 (.one 66 .alone N66) (.node 68 (.one 67 .alone N67) (.one 68 .alone N68)))) (.node 98 (.node 70 (.one 69 .alone N69) (.node 97 (.one 70 .alone N70) (.one 97 .alone N97))) (.node 99 (.one 98 .raw N98) (.node 100 (.one 99 .alone N99) (.one 100 .alone N100))))))) (.node 140 (.node 112 (.node 106 (.node 103 (.node 102 (.one 101 .alone N101) (.one 102 .alone N102)) (.node 104 (.one 103 .alone N103) (.node 105 (.one 104 .alone N104) (.one 105 .alone N105)))) (.node 109 (.node 108 (.one 106 .alone N106) (.one 108 .alone N108)) (.node 110 (.one 109 .alone N109) (.node 111 (.one 110 .alone N110) (.one 111 .alone N111))))) (.node 130 (.node 127 (.node 124 (.one 112 .alone N112) (.one 124 .alone N124)) (.node 128 (.one 127 .alone N127) (.node 129 (.one 128 .raw N128) (.one 129 .alone N129)))) (.node 137 (.node 134 (.one 130 .alone N130) (.node 135 (.one 134 .alone N134) (.one 135 .alone N135))) (.node 138 (.one 137 .alone N137) (.node 139 (.one 138 .alone N138) (.one 139 .alone N139)))))) (.node 160 (.node 149 (.node 142 (.node 141 (.one 140 .alone N140) (.one 141 .alone N141)) (.node 143 (.one 142 .alone N142) (.node 144 (.one 143 .alone N143) (.one 144 .alone N144)))) (.node 157 (.node 150 (.one 149 .alone N149) (.node 153 (.one 150 .alone N150) (.one 153 .raw N153))) (.node 158 (.one 157 .alone N157) (.node 159 (.one 158 .alone N158) (.one 159 .alone N159))))) (.node 168 (.node 165 (.node 163 (.one 160 .alone N160) (.one 163 .alone N163)) (.node 166 (.one 165 .alone N165) (.node 167 (.one 166 .alone N166) (.one 167 .alone N167)))) (.node 174 (.node 172 (.one 168 .alone N168) (.node 173 (.one 172 .alone N172) (.one 173 .alone N173))) (.node 179 (.one 174 .alone N174) (.node 191 (.one 179 .alone N179) (.one 191 .alone N191)))))))

noncomputable def senv : SEnv where
  P := Tryz.prog
  prim := tabP []
  fns := fnsT.get
  gl := gl

theorem senv_ok : SEnvOk senv where
  prim := tabP_ok trivial
  fns := TabT.ok (t := fnsT) (show fnsT.All _ _ from ⟨⟨⟨⟨⟨⟨N3_ok, N6_ok⟩, ⟨N7_ok, ⟨N8_ok, N13_ok⟩⟩⟩, ⟨⟨N14_ok, N15_ok⟩, ⟨N16_ok, ⟨N17_ok, N18_ok⟩⟩⟩⟩, ⟨⟨⟨N19_ok, N20_ok⟩, ⟨N21_ok, ⟨N22_ok, N23_ok⟩⟩⟩, ⟨⟨N24_ok, ⟨N48_ok, N49_ok⟩⟩, ⟨N50_ok, ⟨N51_ok, N52_ok⟩⟩⟩⟩⟩, ⟨⟨⟨⟨N53_ok, N54_ok⟩, ⟨N55_ok, ⟨N56_ok, N57_ok⟩⟩⟩, ⟨⟨N58_ok, ⟨N59_ok, N60_ok⟩⟩, ⟨N61_ok, ⟨N62_ok, N63_ok⟩⟩⟩⟩, ⟨⟨⟨N64_ok, N65_ok⟩, ⟨N66_ok, ⟨N67_ok, N68_ok⟩⟩⟩, ⟨⟨N69_ok, ⟨N70_ok, N97_ok⟩⟩, ⟨N98_ok, ⟨N99_ok, N100_ok⟩⟩⟩⟩⟩⟩, ⟨⟨⟨⟨⟨N101_ok, N102_ok⟩, ⟨N103_ok, ⟨N104_ok, N105_ok⟩⟩⟩, ⟨⟨N106_ok, N108_ok⟩, ⟨N109_ok, ⟨N110_ok, N111_ok⟩⟩⟩⟩, ⟨⟨⟨N112_ok, N124_ok⟩, ⟨N127_ok, ⟨N128_ok, N129_ok⟩⟩⟩, ⟨⟨N130_ok, ⟨N134_ok, N135_ok⟩⟩, ⟨N137_ok, ⟨N138_ok, N139_ok⟩⟩⟩⟩⟩, ⟨⟨⟨⟨N140_ok, N141_ok⟩, ⟨N142_ok, ⟨N143_ok, N144_ok⟩⟩⟩, ⟨⟨N149_ok, ⟨N150_ok, N153_ok⟩⟩, ⟨N157_ok, ⟨N158_ok, N159_ok⟩⟩⟩⟩, ⟨⟨⟨N160_ok, N163_ok⟩, ⟨N165_ok, ⟨N166_ok, N167_ok⟩⟩⟩, ⟨⟨N168_ok, ⟨N172_ok, N173_ok⟩⟩, ⟨N174_ok, ⟨N179_ok, N191_ok⟩⟩⟩⟩⟩⟩⟩)

def isT : Option (AV × Heap) → Bool
  | some (.lit (.bool b), _) => b
  | _ => false

theorem isT_spec {r : Option (AV × Heap)} (h : isT r = true) : ∃ h', r = some (.lit (.bool true), h') := by
  unfold isT at h
  split at h
  · subst h; exact ⟨_, rfl⟩
  · cases h

end Go.Proofs.YtifeckgncimonaaGreatDoor
