/-
  DERIVED: THE SHELF's CONTRACTS AT THIS DUMP, IN PLAIN WORDS (tools/lay-plain.mjs out of 'TryzShelf.lean', which tools/lay-shelf.mjs wrote): THE SAME DECLARATIONS UNDER THE SAME NAMES: 'import', 'namespace', 'open', 'def', 'theorem' AND NOTHING ELSE: no command of the shelf's: FOR A HAND-IN. Each laying: the table of numbers ('.._ren') and one theorem, a field a fact of the dump's own or the kernel's comparison; each contract: ONE APPLICATION.
-/
import Derived.Shelf.Strings.OnBuilder
import Derived.Shelf.Strings.Runes
import Derived.Shelf.Strings.IndexAny
import Derived.Shelf.Strings.AsciiSet
import Derived.Shelf.Strings.IndexAnyAll
import Derived.Test.YtngiokdbbjbpfaaGreatProg
namespace Go.Proofs
open Go.Shelf
def Tryz.lays156_ren : Go.Shelf.Ren := ⟨fun | 156 => 142 | 165 => 185 | 166 => 186 | 169 => 187 | 240 => 228 | 241 => 229 | 276 => 240 | 277 => 241 | n => n, fun | 31 => 22 | 9 => 9 | 3 => 3 | 4 => 4 | 0 => 0 | 20 => 20 | 72 => 254 | 76 => 258 | 70 => 251 | 37 => 252 | 75 => 257 | 127 => 291 | 164 => 300 | 5 => 5 | 80 => 260 | n => n, fun | n => n⟩
theorem Tryz.lays156 : Go.Proofs.Lays.n156 Tryz.prog Tryz.lays156_ren := {
  mixed := by kernel_rfl
  f156 := Tryz.func142.trans (congrArg some (by kernel_rfl))
  f165 := Tryz.func185.trans (congrArg some (by kernel_rfl))
  f166 := Tryz.func186.trans (congrArg some (by kernel_rfl))
  f169 := Tryz.func187.trans (congrArg some (by kernel_rfl))
  f240 := Tryz.func228.trans (congrArg some (by kernel_rfl))
  f241 := Tryz.func229.trans (congrArg some (by kernel_rfl))
  f276 := Tryz.func240.trans (congrArg some (by kernel_rfl))
  f277 := Tryz.func241.trans (congrArg some (by kernel_rfl))
  t0 := Tryz.underlying0
  a0 := Tryz.isAgg0
  z0 := Tryz.sizeOf0
  v0 := Tryz.zeroValue0
  t3 := Tryz.underlying3
  a3 := Tryz.isAgg3
  z3 := Tryz.sizeOf3
  v3 := Tryz.zeroValue3
  t4 := Tryz.underlying4
  a4 := Tryz.isAgg4
  z4 := Tryz.sizeOf4
  v4 := Tryz.zeroValue4
  t9 := Tryz.underlying9
  a9 := Tryz.isAgg9
  z9 := Tryz.sizeOf9
  v9 := Tryz.zeroValue9
  t20 := Tryz.underlying20
  a20 := Tryz.isAgg20
  z20 := Tryz.sizeOf20
  v20 := Tryz.zeroValue20
  t31 := Tryz.underlying22
  a31 := Tryz.isAgg22
  z31 := Tryz.sizeOf22
  v31 := Tryz.zeroValue22
  t37 := Tryz.underlying252
  a37 := Tryz.isAgg252
  z37 := Tryz.sizeOf252
  v37 := Tryz.zeroValue252
  t70 := Tryz.underlying251
  a70 := Tryz.isAgg251
  z70 := Tryz.sizeOf251
  v70 := Tryz.zeroValue251
  t72 := Tryz.underlying254
  a72 := Tryz.isAgg254
  z72 := Tryz.sizeOf254
  v72 := Tryz.zeroValue254
  t75 := Tryz.underlying257
  a75 := Tryz.isAgg257
  z75 := Tryz.sizeOf257
  v75 := Tryz.zeroValue257
  t76 := Tryz.underlying258
  a76 := Tryz.isAgg258
  z76 := Tryz.sizeOf258
  v76 := Tryz.zeroValue258
  t127 := Tryz.underlying291
  a127 := Tryz.isAgg291
  z127 := Tryz.sizeOf291
  v127 := Tryz.zeroValue291
  t164 := Tryz.underlying300
  a164 := Tryz.isAgg300
  z164 := Tryz.sizeOf300
  v164 := Tryz.zeroValue300 }
theorem Tryz.Builder_Extra_156 : Builder.Extra Tryz.prog Tryz.lays156_ren := {
  sizeBuilder := by kernel_rfl
  liesBuilder := by kernel_rfl
  t5 := Tryz.underlying5
  a5 := Tryz.isAgg5
  z5 := Tryz.sizeOf5
  v5 := Tryz.zeroValue5
  infoByte := by kernel_rfl
  cellsByte := by kernel_rfl
  sizeByte := by kernel_rfl
  neB5 := by decide }
open Go.RowKit in
theorem Tryz.strings_Join_none (a : Option Addr) (c : Nat) (sep : ByteArray) (w : World) :
    Calls Tryz.prog 142 #[.slice a 0 c, .string sep] w fun e w' => e = .returned (.string ⟨#[]⟩) ∧ w' = w := Any.strings_Join_none Tryz.lays156 Tryz.Builder_Extra_156 a c sep w
open Go.RowKit in
theorem Tryz.strings_Join (bk o c : Nat) (xs : List ByteArray) (sep : ByteArray) (w : World) (hcells : ∀ (j : Nat) x, xs[j]? = some x → w.cell? ⟨bk, o + j, none⟩ = some (.string x)) (hbk : bk < w.heap.size) (hN : xs.length ≤ 140737488355328) (hcap : xs.length ≤ c) (hlen : (Lib.join (xs.map (·.data.toList)) sep.data.toList).length ≤ 140737488355328) :
    Calls Tryz.prog 142 #[.slice (some ⟨bk, o, none⟩) xs.length c, .string sep] w fun e w' => e = .returned (.string ⟨(Lib.join (xs.map (·.data.toList)) sep.data.toList).toArray⟩) ∧ Below w.heap.size w w' := Any.strings_Join Tryz.lays156 Tryz.Builder_Extra_156 bk o c xs sep w hcells hbk hN hcap hlen
def Tryz.lays151_ren : Go.Shelf.Ren := ⟨fun | 151 => 138 | 152 => 182 | 137 => 214 | 119 => 215 | 224 => 216 | 225 => 217 | 217 => 235 | 266 => 244 | n => n, fun | 9 => 9 | 21 => 21 | 4 => 4 | 3 => 3 | 5 => 5 | 0 => 0 | 46 => 188 | n => n, fun | n => n⟩
theorem Tryz.lays151 : Go.Proofs.Lays.n151 Tryz.prog Tryz.lays151_ren := {
  mixed := by kernel_rfl
  f119 := Tryz.func215.trans (congrArg some (by kernel_rfl))
  f137 := Tryz.func214.trans (congrArg some (by kernel_rfl))
  f151 := Tryz.func138.trans (congrArg some (by kernel_rfl))
  f152 := Tryz.func182.trans (congrArg some (by kernel_rfl))
  f217 := Tryz.func235.trans (congrArg some (by kernel_rfl))
  f224 := Tryz.func216.trans (congrArg some (by kernel_rfl))
  f225 := Tryz.func217.trans (congrArg some (by kernel_rfl))
  f266 := Tryz.func244.trans (congrArg some (by kernel_rfl))
  t0 := Tryz.underlying0
  a0 := Tryz.isAgg0
  z0 := Tryz.sizeOf0
  v0 := Tryz.zeroValue0
  t3 := Tryz.underlying3
  a3 := Tryz.isAgg3
  z3 := Tryz.sizeOf3
  v3 := Tryz.zeroValue3
  t4 := Tryz.underlying4
  a4 := Tryz.isAgg4
  z4 := Tryz.sizeOf4
  v4 := Tryz.zeroValue4
  t5 := Tryz.underlying5
  a5 := Tryz.isAgg5
  z5 := Tryz.sizeOf5
  v5 := Tryz.zeroValue5
  t9 := Tryz.underlying9
  a9 := Tryz.isAgg9
  z9 := Tryz.sizeOf9
  v9 := Tryz.zeroValue9
  t21 := Tryz.underlying21
  a21 := Tryz.isAgg21
  z21 := Tryz.sizeOf21
  v21 := Tryz.zeroValue21
  t46 := Tryz.underlying188
  a46 := Tryz.isAgg188
  z46 := Tryz.sizeOf188
  v46 := Tryz.zeroValue188 }
open Go.RowKit Go.Lib in
theorem Tryz.strings_ContainsRune_ascii (s : ByteArray) (r : Int) (w : World) (h0 : 0 ≤ r) (h1 : r < 128) :
    Calls Tryz.prog 138 #[.string s, .int .i32 r] w fun e w' => e = .returned (.bool (decide (0 ≤ Lib.indexByte s.data.toList r.toNat.toUInt8))) ∧ w' = w := Any.strings_ContainsRune_ascii Tryz.lays151 s r w h0 h1
def Tryz.lays153_ren : Go.Shelf.Ren := ⟨fun | 153 => 179 | 152 => 182 | 226 => 210 | 227 => 211 | 228 => 212 | 137 => 214 | 119 => 215 | 224 => 216 | 225 => 217 | 217 => 235 | 266 => 244 | n => n, fun | 9 => 9 | 3 => 3 | 4 => 4 | 5 => 5 | 21 => 21 | 117 => 282 | 116 => 281 | 0 => 0 | 46 => 188 | 124 => 297 | n => n, fun | n => n⟩
theorem Tryz.lays153 : Go.Proofs.Lays.n153 Tryz.prog Tryz.lays153_ren := {
  mixed := by kernel_rfl
  f119 := Tryz.func215.trans (congrArg some (by kernel_rfl))
  f137 := Tryz.func214.trans (congrArg some (by kernel_rfl))
  f152 := Tryz.func182.trans (congrArg some (by kernel_rfl))
  f153 := Tryz.func179.trans (congrArg some (by kernel_rfl))
  f217 := Tryz.func235.trans (congrArg some (by kernel_rfl))
  f224 := Tryz.func216.trans (congrArg some (by kernel_rfl))
  f225 := Tryz.func217.trans (congrArg some (by kernel_rfl))
  f226 := Tryz.func210.trans (congrArg some (by kernel_rfl))
  f227 := Tryz.func211.trans (congrArg some (by kernel_rfl))
  f228 := Tryz.func212.trans (congrArg some (by kernel_rfl))
  f266 := Tryz.func244.trans (congrArg some (by kernel_rfl))
  t0 := Tryz.underlying0
  a0 := Tryz.isAgg0
  z0 := Tryz.sizeOf0
  v0 := Tryz.zeroValue0
  t3 := Tryz.underlying3
  a3 := Tryz.isAgg3
  z3 := Tryz.sizeOf3
  v3 := Tryz.zeroValue3
  t4 := Tryz.underlying4
  a4 := Tryz.isAgg4
  z4 := Tryz.sizeOf4
  v4 := Tryz.zeroValue4
  t5 := Tryz.underlying5
  a5 := Tryz.isAgg5
  z5 := Tryz.sizeOf5
  v5 := Tryz.zeroValue5
  t9 := Tryz.underlying9
  a9 := Tryz.isAgg9
  z9 := Tryz.sizeOf9
  v9 := Tryz.zeroValue9
  t21 := Tryz.underlying21
  a21 := Tryz.isAgg21
  z21 := Tryz.sizeOf21
  v21 := Tryz.zeroValue21
  t46 := Tryz.underlying188
  a46 := Tryz.isAgg188
  z46 := Tryz.sizeOf188
  v46 := Tryz.zeroValue188
  t116 := Tryz.underlying281
  a116 := Tryz.isAgg281
  z116 := Tryz.sizeOf281
  t117 := Tryz.underlying282
  a117 := Tryz.isAgg282
  z117 := Tryz.sizeOf282
  v117 := Tryz.zeroValue282
  t124 := Tryz.underlying297
  a124 := Tryz.isAgg297
  z124 := Tryz.sizeOf297
  v124 := Tryz.zeroValue297 }
open Go.RowKit Go.Lib in
theorem Tryz.strings_IndexAny_laid (s chars : ByteArray) (w : World) (hs : s.size < 4294967281) (hcs : chars.size < 4294967281) (has : ∀ (j : Nat) b, s.data.toList[j]? = some b → b.toNat < 128) (hac : ∀ (j : Nat) b, chars.data.toList[j]? = some b → b.toNat < 128) :
    Calls Tryz.prog 179 #[.string s, .string chars] w fun e w' => e = .returned (.int .i64 (Lib.indexAny s.data.toList chars.data.toList)) ∧ Below w.heap.size w w' := Any.strings_IndexAny_laid Tryz.lays153 (by kernel_rfl) s chars w hs hcs has hac
end Go.Proofs
