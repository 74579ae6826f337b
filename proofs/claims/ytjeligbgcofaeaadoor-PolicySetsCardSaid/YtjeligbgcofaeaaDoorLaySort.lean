/-
  DERIVED: THE SHELF's CONTRACTS AT THIS DUMP, IN PLAIN WORDS (tools/lay-plain.mjs out of 'YtjeligbgcofaeaaDoorLaySort.lean', which tools/lay-shelf.mjs wrote): THE SAME DECLARATIONS UNDER THE SAME NAMES: 'import', 'namespace', 'open', 'def', 'theorem' AND NOTHING ELSE: no command of the shelf's: FOR A HAND-IN. Each laying: the table of numbers ('.._ren') and one theorem, a field a fact of the dump's own or the kernel's comparison; each contract: ONE APPLICATION.
-/
import Derived.Shelf.SlGeneric
import Derived.Shelf.SlSortCmp.NoneTotal
import Derived.Ground.SlsfProg
import Derived.Test.YtjeligbgcofaeaaDoorProg
namespace Go.Proofs
open Go.Shelf
def Tryd.laySort_ren : Go.Shelf.Ren := ⟨fun | 6 => 55 | 15 => 68 | 14 => 67 | 28 => 79 | 29 => 80 | 20 => 71 | 21 => 72 | 22 => 73 | 23 => 74 | 24 => 75 | 25 => 76 | 26 => 77 | 27 => 78 | 46 => 81 | 47 => 82 | 48 => 83 | 49 => 84 | 50 => 85 | 57 => 86 | n => n, fun | 22 => 47 | 24 => 31 | 25 => 107 | 3 => 3 | 39 => 39 | 0 => 0 | 53 => 28 | 55 => 22 | 4 => 4 | 46 => 124 | 45 => 123 | 50 => 128 | 5 => 5 | 9 => 9 | 66 => 132 | 70 => 136 | 76 => 138 | 77 => 54 | n => n, fun | n => n⟩
theorem Tryd.laySort : Go.Proofs.SlLaysF0.n6 Tryd.prog Tryd.laySort_ren := {
  mixed := by kernel_rfl
  f6 := ⟨Tryd.f55.name, by decide, Tryd.func55.trans (congrArg some (by kernel_rfl))⟩
  f14 := ⟨Tryd.f67.name, by decide, Tryd.func67.trans (congrArg some (by kernel_rfl))⟩
  f15 := Tryd.func68.trans (congrArg some (by kernel_rfl))
  f20 := ⟨Tryd.f71.name, by decide, Tryd.func71.trans (congrArg some (by kernel_rfl))⟩
  f21 := ⟨Tryd.f72.name, by decide, Tryd.func72.trans (congrArg some (by kernel_rfl))⟩
  f22 := ⟨Tryd.f73.name, by decide, Tryd.func73.trans (congrArg some (by kernel_rfl))⟩
  f23 := ⟨Tryd.f74.name, by decide, Tryd.func74.trans (congrArg some (by kernel_rfl))⟩
  f24 := ⟨Tryd.f75.name, by decide, Tryd.func75.trans (congrArg some (by kernel_rfl))⟩
  f25 := ⟨Tryd.f76.name, by decide, Tryd.func76.trans (congrArg some (by kernel_rfl))⟩
  f26 := ⟨Tryd.f77.name, by decide, Tryd.func77.trans (congrArg some (by kernel_rfl))⟩
  f27 := ⟨Tryd.f78.name, by decide, Tryd.func78.trans (congrArg some (by kernel_rfl))⟩
  f28 := Tryd.func79.trans (congrArg some (by kernel_rfl))
  f29 := Tryd.func80.trans (congrArg some (by kernel_rfl))
  f46 := ⟨Tryd.f81.name, by decide, Tryd.func81.trans (congrArg some (by kernel_rfl))⟩
  f47 := Tryd.func82.trans (congrArg some (by kernel_rfl))
  f48 := Tryd.func83.trans (congrArg some (by kernel_rfl))
  f49 := ⟨Tryd.f84.name, by decide, Tryd.func84.trans (congrArg some (by kernel_rfl))⟩
  f50 := ⟨Tryd.f85.name, by decide, Tryd.func85.trans (congrArg some (by kernel_rfl))⟩
  f57 := ⟨Tryd.f86.name, by decide, Tryd.func86.trans (congrArg some (by kernel_rfl))⟩
  t0 := Tryd.underlying0
  a0 := Tryd.isAgg0
  z0 := Tryd.sizeOf0
  v0 := Tryd.zeroValue0
  t3 := Tryd.underlying3
  a3 := Tryd.isAgg3
  z3 := Tryd.sizeOf3
  v3 := Tryd.zeroValue3
  t4 := Tryd.underlying4
  a4 := Tryd.isAgg4
  z4 := Tryd.sizeOf4
  v4 := Tryd.zeroValue4
  t5 := Tryd.underlying5
  a5 := Tryd.isAgg5
  z5 := Tryd.sizeOf5
  v5 := Tryd.zeroValue5
  t9 := Tryd.underlying9
  a9 := Tryd.isAgg9
  z9 := Tryd.sizeOf9
  v9 := Tryd.zeroValue9
  t22 := Tryd.underlying47
  a22 := Tryd.isAgg47
  z22 := Tryd.sizeOf47
  v22 := Tryd.zeroValue47
  t25 := Tryd.underlying107
  a25 := Tryd.isAgg107
  z25 := Tryd.sizeOf107
  v25 := Tryd.zeroValue107
  t39 := Tryd.underlying39
  a39 := Tryd.isAgg39
  z39 := Tryd.sizeOf39
  v39 := Tryd.zeroValue39
  t45 := Tryd.underlying123
  a45 := Tryd.isAgg123
  z45 := Tryd.sizeOf123
  v45 := Tryd.zeroValue123
  t46 := Tryd.underlying124
  a46 := Tryd.isAgg124
  z46 := Tryd.sizeOf124
  v46 := Tryd.zeroValue124
  t50 := Tryd.underlying128
  a50 := Tryd.isAgg128
  z50 := Tryd.sizeOf128
  v50 := Tryd.zeroValue128
  t53 := Tryd.underlying28
  a53 := Tryd.isAgg28
  z53 := Tryd.sizeOf28
  v53 := Tryd.zeroValue28
  t55 := Tryd.underlying22
  a55 := Tryd.isAgg22
  z55 := Tryd.sizeOf22
  v55 := Tryd.zeroValue22
  t66 := Tryd.underlying132
  a66 := Tryd.isAgg132
  z66 := Tryd.sizeOf132
  v66 := Tryd.zeroValue132
  t70 := Tryd.underlying136
  a70 := Tryd.isAgg136
  z70 := Tryd.sizeOf136
  v70 := Tryd.zeroValue136
  t76 := Tryd.underlying138
  a76 := Tryd.isAgg138
  z76 := Tryd.sizeOf138
  v76 := Tryd.zeroValue138
  t77 := Tryd.underlying54
  a77 := Tryd.isAgg54
  z77 := Tryd.sizeOf54
  v77 := Tryd.zeroValue54 }
end Go.Proofs
