/-
  DERIVED: THE SHELF's CONTRACTS AT THIS DUMP, IN PLAIN WORDS (tools/lay-plain.mjs out of 'TryzShelfB.lean', which tools/lay-shelf.mjs wrote): THE SAME DECLARATIONS UNDER THE SAME NAMES: 'import', 'namespace', 'open', 'def', 'theorem' AND NOTHING ELSE: no command of the shelf's: FOR A HAND-IN. Each laying: the table of numbers ('.._ren') and one theorem, a field a fact of the dump's own or the kernel's comparison; each contract: ONE APPLICATION.
-/
import Derived.Shelf.SlGeneric
import Derived.Shelf.SlSortCmp.SmallK
import Derived.Shelf.SlSortCmp.WholeK
import Derived.Shelf.Small.Bits
import Derived.Shelf.Sort.Plain
import Derived.Ground.SlsfProg
import Derived.Ground.NamesProg
import Derived.Test.YtcoddcdiimpndaaGreatDoorProg
namespace Go.Proofs
open Go.Shelf
def Tryz.sortInts_ren : Go.Shelf.Ren := ⟨fun | 189 => 82 | 125 => 112 | 257 => 111 | 128 => 134 | 129 => 135 | 294 => 125 | 295 => 126 | 296 => 127 | 297 => 128 | 298 => 129 | 299 => 130 | 216 => 131 | 300 => 132 | 301 => 133 | 328 => 171 | 329 => 172 | 330 => 173 | 331 => 174 | 332 => 175 | 215 => 119 | 343 => 190 | n => n, fun | 28 => 23 | 3 => 3 | 46 => 77 | 0 => 0 | 51 => 163 | 53 => 165 | 4 => 4 | 183 => 157 | 182 => 156 | 131 => 104 | 5 => 5 | 9 => 9 | 218 => 192 | 222 => 196 | 228 => 207 | 229 => 208 | n => n, fun | n => n⟩
theorem Tryz.sortInts : Go.Proofs.Lays.n189 Tryz.prog Tryz.sortInts_ren := {
  mixed := by kernel_rfl
  f125 := Tryz.func112.trans (congrArg some (by kernel_rfl))
  f128 := Tryz.func134.trans (congrArg some (by kernel_rfl))
  f129 := Tryz.func135.trans (congrArg some (by kernel_rfl))
  f189 := Tryz.func82.trans (congrArg some (by kernel_rfl))
  f215 := Tryz.func119.trans (congrArg some (by kernel_rfl))
  f216 := Tryz.func131.trans (congrArg some (by kernel_rfl))
  f257 := Tryz.func111.trans (congrArg some (by kernel_rfl))
  f294 := Tryz.func125.trans (congrArg some (by kernel_rfl))
  f295 := Tryz.func126.trans (congrArg some (by kernel_rfl))
  f296 := Tryz.func127.trans (congrArg some (by kernel_rfl))
  f297 := Tryz.func128.trans (congrArg some (by kernel_rfl))
  f298 := Tryz.func129.trans (congrArg some (by kernel_rfl))
  f299 := Tryz.func130.trans (congrArg some (by kernel_rfl))
  f300 := Tryz.func132.trans (congrArg some (by kernel_rfl))
  f301 := Tryz.func133.trans (congrArg some (by kernel_rfl))
  f328 := Tryz.func171.trans (congrArg some (by kernel_rfl))
  f329 := Tryz.func172.trans (congrArg some (by kernel_rfl))
  f330 := Tryz.func173.trans (congrArg some (by kernel_rfl))
  f331 := Tryz.func174.trans (congrArg some (by kernel_rfl))
  f332 := Tryz.func175.trans (congrArg some (by kernel_rfl))
  f343 := Tryz.func190.trans (congrArg some (by kernel_rfl))
  t0 := Tryz.underlying0
  a0 := Tryz.isAgg0
  z0 := Tryz.sizeOf0
  v0 := Tryz.zeroValue0
  t3 := Tryz.underlying3
  a3 := Tryz.isAgg3
  z3 := Tryz.sizeOf3
  v3 := Tryz.zeroValue3
  t4 := Tryz.underlying4
  a4 := Tryz.isAgg4
  z4 := Tryz.sizeOf4
  v4 := Tryz.zeroValue4
  t5 := Tryz.underlying5
  a5 := Tryz.isAgg5
  z5 := Tryz.sizeOf5
  v5 := Tryz.zeroValue5
  t9 := Tryz.underlying9
  a9 := Tryz.isAgg9
  z9 := Tryz.sizeOf9
  v9 := Tryz.zeroValue9
  t28 := Tryz.underlying23
  a28 := Tryz.isAgg23
  z28 := Tryz.sizeOf23
  v28 := Tryz.zeroValue23
  t46 := Tryz.underlying77
  a46 := Tryz.isAgg77
  z46 := Tryz.sizeOf77
  v46 := Tryz.zeroValue77
  t51 := Tryz.underlying163
  a51 := Tryz.isAgg163
  z51 := Tryz.sizeOf163
  v51 := Tryz.zeroValue163
  t53 := Tryz.underlying165
  a53 := Tryz.isAgg165
  z53 := Tryz.sizeOf165
  v53 := Tryz.zeroValue165
  t131 := Tryz.underlying104
  a131 := Tryz.isAgg104
  z131 := Tryz.sizeOf104
  v131 := Tryz.zeroValue104
  t182 := Tryz.underlying156
  a182 := Tryz.isAgg156
  z182 := Tryz.sizeOf156
  v182 := Tryz.zeroValue156
  t183 := Tryz.underlying157
  a183 := Tryz.isAgg157
  z183 := Tryz.sizeOf157
  v183 := Tryz.zeroValue157
  t218 := Tryz.underlying192
  a218 := Tryz.isAgg192
  z218 := Tryz.sizeOf192
  v218 := Tryz.zeroValue192
  t222 := Tryz.underlying196
  a222 := Tryz.isAgg196
  z222 := Tryz.sizeOf196
  v222 := Tryz.zeroValue196
  t228 := Tryz.underlying207
  a228 := Tryz.isAgg207
  z228 := Tryz.sizeOf207
  v228 := Tryz.zeroValue207
  t229 := Tryz.underlying208
  a229 := Tryz.isAgg208
  z229 := Tryz.sizeOf208
  v229 := Tryz.zeroValue208 }
end Go.Proofs
