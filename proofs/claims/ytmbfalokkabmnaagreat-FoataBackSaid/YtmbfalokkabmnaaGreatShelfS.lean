/-
  DERIVED: THE SHELF's CONTRACTS AT THIS DUMP, IN PLAIN WORDS (tools/lay-plain.mjs out of 'TryzShelfS.lean', which tools/lay-shelf.mjs wrote): THE SAME DECLARATIONS UNDER THE SAME NAMES: 'import', 'namespace', 'open', 'def', 'theorem' AND NOTHING ELSE: no command of the shelf's: FOR A HAND-IN. Each laying: the table of numbers ('.._ren') and one theorem, a field a fact of the dump's own or the kernel's comparison; each contract: ONE APPLICATION.
-/
import Derived.Shelf.SlSortCmp.WholeK
import Derived.Ground.SlsfProg
import Derived.Test.YtmbfalokkabmnaaGreatProg
namespace Go.Proofs
open Go.Shelf
def Tryz.sortOd_ren : Go.Shelf.Ren := ⟨fun | 6 => 44 | 15 => 77 | 14 => 76 | 28 => 111 | 29 => 112 | 20 => 103 | 21 => 104 | 22 => 105 | 23 => 106 | 24 => 107 | 25 => 108 | 26 => 109 | 27 => 110 | 46 => 131 | 47 => 132 | 48 => 133 | 49 => 134 | 50 => 135 | 57 => 161 | n => n, fun | 22 => 22 | 24 => 55 | 25 => 66 | 3 => 3 | 39 => 101 | 0 => 0 | 53 => 131 | 55 => 94 | 4 => 4 | 46 => 125 | 45 => 124 | 50 => 110 | 5 => 5 | 9 => 9 | 66 => 159 | 70 => 146 | 76 => 176 | 77 => 177 | n => n, fun | n => n⟩
theorem Tryz.sortOd : Go.Proofs.SlLaysF0.n6 Tryz.prog Tryz.sortOd_ren := {
  mixed := by kernel_rfl
  f6 := ⟨Tryz.f44.name, by decide, Tryz.func44.trans (congrArg some (by kernel_rfl))⟩
  f14 := ⟨Tryz.f76.name, by decide, Tryz.func76.trans (congrArg some (by kernel_rfl))⟩
  f15 := Tryz.func77.trans (congrArg some (by kernel_rfl))
  f20 := ⟨Tryz.f103.name, by decide, Tryz.func103.trans (congrArg some (by kernel_rfl))⟩
  f21 := ⟨Tryz.f104.name, by decide, Tryz.func104.trans (congrArg some (by kernel_rfl))⟩
  f22 := ⟨Tryz.f105.name, by decide, Tryz.func105.trans (congrArg some (by kernel_rfl))⟩
  f23 := ⟨Tryz.f106.name, by decide, Tryz.func106.trans (congrArg some (by kernel_rfl))⟩
  f24 := ⟨Tryz.f107.name, by decide, Tryz.func107.trans (congrArg some (by kernel_rfl))⟩
  f25 := ⟨Tryz.f108.name, by decide, Tryz.func108.trans (congrArg some (by kernel_rfl))⟩
  f26 := ⟨Tryz.f109.name, by decide, Tryz.func109.trans (congrArg some (by kernel_rfl))⟩
  f27 := ⟨Tryz.f110.name, by decide, Tryz.func110.trans (congrArg some (by kernel_rfl))⟩
  f28 := Tryz.func111.trans (congrArg some (by kernel_rfl))
  f29 := Tryz.func112.trans (congrArg some (by kernel_rfl))
  f46 := ⟨Tryz.f131.name, by decide, Tryz.func131.trans (congrArg some (by kernel_rfl))⟩
  f47 := Tryz.func132.trans (congrArg some (by kernel_rfl))
  f48 := Tryz.func133.trans (congrArg some (by kernel_rfl))
  f49 := ⟨Tryz.f134.name, by decide, Tryz.func134.trans (congrArg some (by kernel_rfl))⟩
  f50 := ⟨Tryz.f135.name, by decide, Tryz.func135.trans (congrArg some (by kernel_rfl))⟩
  f57 := ⟨Tryz.f161.name, by decide, Tryz.func161.trans (congrArg some (by kernel_rfl))⟩
  t0 := Tryz.underlying0
  a0 := Tryz.isAgg0
  z0 := Tryz.sizeOf0
  v0 := Tryz.zeroValue0
  t3 := Tryz.underlying3
  a3 := Tryz.isAgg3
  z3 := Tryz.sizeOf3
  v3 := Tryz.zeroValue3
  t4 := Tryz.underlying4
  a4 := Tryz.isAgg4
  z4 := Tryz.sizeOf4
  v4 := Tryz.zeroValue4
  t5 := Tryz.underlying5
  a5 := Tryz.isAgg5
  z5 := Tryz.sizeOf5
  v5 := Tryz.zeroValue5
  t9 := Tryz.underlying9
  a9 := Tryz.isAgg9
  z9 := Tryz.sizeOf9
  v9 := Tryz.zeroValue9
  t22 := Tryz.underlying22
  a22 := Tryz.isAgg22
  z22 := Tryz.sizeOf22
  v22 := Tryz.zeroValue22
  t25 := Tryz.underlying66
  a25 := Tryz.isAgg66
  z25 := Tryz.sizeOf66
  v25 := Tryz.zeroValue66
  t39 := Tryz.underlying101
  a39 := Tryz.isAgg101
  z39 := Tryz.sizeOf101
  v39 := Tryz.zeroValue101
  t45 := Tryz.underlying124
  a45 := Tryz.isAgg124
  z45 := Tryz.sizeOf124
  v45 := Tryz.zeroValue124
  t46 := Tryz.underlying125
  a46 := Tryz.isAgg125
  z46 := Tryz.sizeOf125
  v46 := Tryz.zeroValue125
  t50 := Tryz.underlying110
  a50 := Tryz.isAgg110
  z50 := Tryz.sizeOf110
  v50 := Tryz.zeroValue110
  t53 := Tryz.underlying131
  a53 := Tryz.isAgg131
  z53 := Tryz.sizeOf131
  v53 := Tryz.zeroValue131
  t55 := Tryz.underlying94
  a55 := Tryz.isAgg94
  z55 := Tryz.sizeOf94
  v55 := Tryz.zeroValue94
  t66 := Tryz.underlying159
  a66 := Tryz.isAgg159
  z66 := Tryz.sizeOf159
  v66 := Tryz.zeroValue159
  t70 := Tryz.underlying146
  a70 := Tryz.isAgg146
  z70 := Tryz.sizeOf146
  v70 := Tryz.zeroValue146
  t76 := Tryz.underlying176
  a76 := Tryz.isAgg176
  z76 := Tryz.sizeOf176
  v76 := Tryz.zeroValue176
  t77 := Tryz.underlying177
  a77 := Tryz.isAgg177
  z77 := Tryz.sizeOf177
  v77 := Tryz.zeroValue177 }
end Go.Proofs
