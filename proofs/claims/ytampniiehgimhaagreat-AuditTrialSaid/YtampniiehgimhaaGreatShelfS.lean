/-
  DERIVED: THE SHELF's CONTRACTS AT THIS DUMP, IN PLAIN WORDS (tools/lay-plain.mjs out of 'TryzShelfS.lean', which tools/lay-shelf.mjs wrote): THE SAME DECLARATIONS UNDER THE SAME NAMES: 'import', 'namespace', 'open', 'def', 'theorem' AND NOTHING ELSE: no command of the shelf's: FOR A HAND-IN. Each laying: the table of numbers ('.._ren') and one theorem, a field a fact of the dump's own or the kernel's comparison; each contract: ONE APPLICATION.
-/
import Derived.Shelf.SlSortCmp.WholeK
import Derived.Ground.SlsfProg
import Derived.Test.YtampniiehgimhaaGreatProg
namespace Go.Proofs
open Go.Shelf
def Tryz.sortHd_ren : Go.Shelf.Ren := ⟨fun | 6 => 137 | 15 => 174 | 14 => 183 | 28 => 201 | 29 => 202 | 20 => 205 | 21 => 206 | 22 => 207 | 23 => 208 | 24 => 209 | 25 => 210 | 26 => 211 | 27 => 212 | 46 => 228 | 47 => 222 | 48 => 223 | 49 => 229 | 50 => 230 | 57 => 235 | n => n, fun | 22 => 111 | 24 => 145 | 25 => 232 | 3 => 3 | 39 => 56 | 0 => 0 | 53 => 269 | 55 => 213 | 4 => 4 | 46 => 262 | 45 => 261 | 50 => 266 | 5 => 5 | 9 => 9 | 66 => 282 | 70 => 286 | 76 => 291 | 77 => 292 | n => n, fun | n => n⟩
theorem Tryz.sortHd : Go.Proofs.SlLaysF0.n6 Tryz.prog Tryz.sortHd_ren := {
  mixed := by kernel_rfl
  f6 := ⟨Tryz.f137.name, by decide, Tryz.func137.trans (congrArg some (by kernel_rfl))⟩
  f14 := ⟨Tryz.f183.name, by decide, Tryz.func183.trans (congrArg some (by kernel_rfl))⟩
  f15 := Tryz.func174.trans (congrArg some (by kernel_rfl))
  f20 := ⟨Tryz.f205.name, by decide, Tryz.func205.trans (congrArg some (by kernel_rfl))⟩
  f21 := ⟨Tryz.f206.name, by decide, Tryz.func206.trans (congrArg some (by kernel_rfl))⟩
  f22 := ⟨Tryz.f207.name, by decide, Tryz.func207.trans (congrArg some (by kernel_rfl))⟩
  f23 := ⟨Tryz.f208.name, by decide, Tryz.func208.trans (congrArg some (by kernel_rfl))⟩
  f24 := ⟨Tryz.f209.name, by decide, Tryz.func209.trans (congrArg some (by kernel_rfl))⟩
  f25 := ⟨Tryz.f210.name, by decide, Tryz.func210.trans (congrArg some (by kernel_rfl))⟩
  f26 := ⟨Tryz.f211.name, by decide, Tryz.func211.trans (congrArg some (by kernel_rfl))⟩
  f27 := ⟨Tryz.f212.name, by decide, Tryz.func212.trans (congrArg some (by kernel_rfl))⟩
  f28 := Tryz.func201.trans (congrArg some (by kernel_rfl))
  f29 := Tryz.func202.trans (congrArg some (by kernel_rfl))
  f46 := ⟨Tryz.f228.name, by decide, Tryz.func228.trans (congrArg some (by kernel_rfl))⟩
  f47 := Tryz.func222.trans (congrArg some (by kernel_rfl))
  f48 := Tryz.func223.trans (congrArg some (by kernel_rfl))
  f49 := ⟨Tryz.f229.name, by decide, Tryz.func229.trans (congrArg some (by kernel_rfl))⟩
  f50 := ⟨Tryz.f230.name, by decide, Tryz.func230.trans (congrArg some (by kernel_rfl))⟩
  f57 := ⟨Tryz.f235.name, by decide, Tryz.func235.trans (congrArg some (by kernel_rfl))⟩
  t0 := Tryz.underlying0
  a0 := Tryz.isAgg0
  z0 := Tryz.sizeOf0
  v0 := Tryz.zeroValue0
  t3 := Tryz.underlying3
  a3 := Tryz.isAgg3
  z3 := Tryz.sizeOf3
  v3 := Tryz.zeroValue3
  t4 := Tryz.underlying4
  a4 := Tryz.isAgg4
  z4 := Tryz.sizeOf4
  v4 := Tryz.zeroValue4
  t5 := Tryz.underlying5
  a5 := Tryz.isAgg5
  z5 := Tryz.sizeOf5
  v5 := Tryz.zeroValue5
  t9 := Tryz.underlying9
  a9 := Tryz.isAgg9
  z9 := Tryz.sizeOf9
  v9 := Tryz.zeroValue9
  t22 := Tryz.underlying111
  a22 := Tryz.isAgg111
  z22 := Tryz.sizeOf111
  v22 := Tryz.zeroValue111
  t25 := Tryz.underlying232
  a25 := Tryz.isAgg232
  z25 := Tryz.sizeOf232
  v25 := Tryz.zeroValue232
  t39 := Tryz.underlying56
  a39 := Tryz.isAgg56
  z39 := Tryz.sizeOf56
  v39 := Tryz.zeroValue56
  t45 := Tryz.underlying261
  a45 := Tryz.isAgg261
  z45 := Tryz.sizeOf261
  v45 := Tryz.zeroValue261
  t46 := Tryz.underlying262
  a46 := Tryz.isAgg262
  z46 := Tryz.sizeOf262
  v46 := Tryz.zeroValue262
  t50 := Tryz.underlying266
  a50 := Tryz.isAgg266
  z50 := Tryz.sizeOf266
  v50 := Tryz.zeroValue266
  t53 := Tryz.underlying269
  a53 := Tryz.isAgg269
  z53 := Tryz.sizeOf269
  v53 := Tryz.zeroValue269
  t55 := Tryz.underlying213
  a55 := Tryz.isAgg213
  z55 := Tryz.sizeOf213
  v55 := Tryz.zeroValue213
  t66 := Tryz.underlying282
  a66 := Tryz.isAgg282
  z66 := Tryz.sizeOf282
  v66 := Tryz.zeroValue282
  t70 := Tryz.underlying286
  a70 := Tryz.isAgg286
  z70 := Tryz.sizeOf286
  v70 := Tryz.zeroValue286
  t76 := Tryz.underlying291
  a76 := Tryz.isAgg291
  z76 := Tryz.sizeOf291
  v76 := Tryz.zeroValue291
  t77 := Tryz.underlying292
  a77 := Tryz.isAgg292
  z77 := Tryz.sizeOf292
  v77 := Tryz.zeroValue292 }
end Go.Proofs
