/-
  DERIVED: THE SHELF's CONTRACTS AT THIS DUMP, IN PLAIN WORDS (tools/lay-plain.mjs out of 'TryzShelfS.lean', which tools/lay-shelf.mjs wrote): THE SAME DECLARATIONS UNDER THE SAME NAMES: 'import', 'namespace', 'open', 'def', 'theorem' AND NOTHING ELSE: no command of the shelf's: FOR A HAND-IN. Each laying: the table of numbers ('.._ren') and one theorem, a field a fact of the dump's own or the kernel's comparison; each contract: ONE APPLICATION.
-/
import Derived.Shelf.SlSortCmp.WholeK
import Derived.Ground.SlsfProg
import Derived.Test.YtgholbeehkfbiaaGreatProg
namespace Go.Proofs
open Go.Shelf
def Tryz.sortHd_ren : Go.Shelf.Ren := ⟨fun | 6 => 147 | 15 => 184 | 14 => 193 | 28 => 211 | 29 => 212 | 20 => 215 | 21 => 216 | 22 => 217 | 23 => 218 | 24 => 219 | 25 => 220 | 26 => 221 | 27 => 222 | 46 => 238 | 47 => 232 | 48 => 233 | 49 => 239 | 50 => 240 | 57 => 245 | n => n, fun | 22 => 119 | 24 => 151 | 25 => 239 | 3 => 3 | 39 => 56 | 0 => 0 | 53 => 275 | 55 => 219 | 4 => 4 | 46 => 268 | 45 => 267 | 50 => 272 | 5 => 5 | 9 => 9 | 66 => 288 | 70 => 292 | 76 => 297 | 77 => 298 | n => n, fun | n => n⟩
theorem Tryz.sortHd : Go.Proofs.SlLaysF0.n6 Tryz.prog Tryz.sortHd_ren := {
  mixed := by kernel_rfl
  f6 := ⟨Tryz.f147.name, by decide, Tryz.func147.trans (congrArg some (by kernel_rfl))⟩
  f14 := ⟨Tryz.f193.name, by decide, Tryz.func193.trans (congrArg some (by kernel_rfl))⟩
  f15 := Tryz.func184.trans (congrArg some (by kernel_rfl))
  f20 := ⟨Tryz.f215.name, by decide, Tryz.func215.trans (congrArg some (by kernel_rfl))⟩
  f21 := ⟨Tryz.f216.name, by decide, Tryz.func216.trans (congrArg some (by kernel_rfl))⟩
  f22 := ⟨Tryz.f217.name, by decide, Tryz.func217.trans (congrArg some (by kernel_rfl))⟩
  f23 := ⟨Tryz.f218.name, by decide, Tryz.func218.trans (congrArg some (by kernel_rfl))⟩
  f24 := ⟨Tryz.f219.name, by decide, Tryz.func219.trans (congrArg some (by kernel_rfl))⟩
  f25 := ⟨Tryz.f220.name, by decide, Tryz.func220.trans (congrArg some (by kernel_rfl))⟩
  f26 := ⟨Tryz.f221.name, by decide, Tryz.func221.trans (congrArg some (by kernel_rfl))⟩
  f27 := ⟨Tryz.f222.name, by decide, Tryz.func222.trans (congrArg some (by kernel_rfl))⟩
  f28 := Tryz.func211.trans (congrArg some (by kernel_rfl))
  f29 := Tryz.func212.trans (congrArg some (by kernel_rfl))
  f46 := ⟨Tryz.f238.name, by decide, Tryz.func238.trans (congrArg some (by kernel_rfl))⟩
  f47 := Tryz.func232.trans (congrArg some (by kernel_rfl))
  f48 := Tryz.func233.trans (congrArg some (by kernel_rfl))
  f49 := ⟨Tryz.f239.name, by decide, Tryz.func239.trans (congrArg some (by kernel_rfl))⟩
  f50 := ⟨Tryz.f240.name, by decide, Tryz.func240.trans (congrArg some (by kernel_rfl))⟩
  f57 := ⟨Tryz.f245.name, by decide, Tryz.func245.trans (congrArg some (by kernel_rfl))⟩
  t0 := Tryz.underlying0
  a0 := Tryz.isAgg0
  z0 := Tryz.sizeOf0
  v0 := Tryz.zeroValue0
  t3 := Tryz.underlying3
  a3 := Tryz.isAgg3
  z3 := Tryz.sizeOf3
  v3 := Tryz.zeroValue3
  t4 := Tryz.underlying4
  a4 := Tryz.isAgg4
  z4 := Tryz.sizeOf4
  v4 := Tryz.zeroValue4
  t5 := Tryz.underlying5
  a5 := Tryz.isAgg5
  z5 := Tryz.sizeOf5
  v5 := Tryz.zeroValue5
  t9 := Tryz.underlying9
  a9 := Tryz.isAgg9
  z9 := Tryz.sizeOf9
  v9 := Tryz.zeroValue9
  t22 := Tryz.underlying119
  a22 := Tryz.isAgg119
  z22 := Tryz.sizeOf119
  v22 := Tryz.zeroValue119
  t25 := Tryz.underlying239
  a25 := Tryz.isAgg239
  z25 := Tryz.sizeOf239
  v25 := Tryz.zeroValue239
  t39 := Tryz.underlying56
  a39 := Tryz.isAgg56
  z39 := Tryz.sizeOf56
  v39 := Tryz.zeroValue56
  t45 := Tryz.underlying267
  a45 := Tryz.isAgg267
  z45 := Tryz.sizeOf267
  v45 := Tryz.zeroValue267
  t46 := Tryz.underlying268
  a46 := Tryz.isAgg268
  z46 := Tryz.sizeOf268
  v46 := Tryz.zeroValue268
  t50 := Tryz.underlying272
  a50 := Tryz.isAgg272
  z50 := Tryz.sizeOf272
  v50 := Tryz.zeroValue272
  t53 := Tryz.underlying275
  a53 := Tryz.isAgg275
  z53 := Tryz.sizeOf275
  v53 := Tryz.zeroValue275
  t55 := Tryz.underlying219
  a55 := Tryz.isAgg219
  z55 := Tryz.sizeOf219
  v55 := Tryz.zeroValue219
  t66 := Tryz.underlying288
  a66 := Tryz.isAgg288
  z66 := Tryz.sizeOf288
  v66 := Tryz.zeroValue288
  t70 := Tryz.underlying292
  a70 := Tryz.isAgg292
  z70 := Tryz.sizeOf292
  v70 := Tryz.zeroValue292
  t76 := Tryz.underlying297
  a76 := Tryz.isAgg297
  z76 := Tryz.sizeOf297
  v76 := Tryz.zeroValue297
  t77 := Tryz.underlying298
  a77 := Tryz.isAgg298
  z77 := Tryz.sizeOf298
  v77 := Tryz.zeroValue298 }
end Go.Proofs
