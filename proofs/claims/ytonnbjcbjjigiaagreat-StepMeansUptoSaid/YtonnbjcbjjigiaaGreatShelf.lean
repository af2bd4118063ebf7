/-
  DERIVED: THE SHELF's CONTRACTS AT THIS DUMP, IN PLAIN WORDS (tools/lay-plain.mjs out of 'TryzShelf.lean', which tools/lay-shelf.mjs wrote): THE SAME DECLARATIONS UNDER THE SAME NAMES: 'import', 'namespace', 'open', 'def', 'theorem' AND NOTHING ELSE: no command of the shelf's: FOR A HAND-IN. Each laying: the table of numbers ('.._ren') and one theorem, a field a fact of the dump's own or the kernel's comparison; each contract: ONE APPLICATION.
-/
import Derived.Shelf.SlSortCmp.NoneTotal
import Derived.Ground.SlsfProg
import Derived.Test.YtonnbjcbjjigiaaGreatProg
namespace Go.Proofs
open Go.Shelf
def Tryz.sortL_ren : Go.Shelf.Ren := ⟨fun | 6 => 55 | 15 => 70 | 14 => 69 | 28 => 91 | 29 => 92 | 20 => 83 | 21 => 84 | 22 => 85 | 23 => 86 | 24 => 87 | 25 => 88 | 26 => 89 | 27 => 90 | 46 => 103 | 47 => 104 | 48 => 105 | 49 => 106 | 50 => 107 | 57 => 116 | n => n, fun | 22 => 56 | 24 => 60 | 25 => 129 | 3 => 3 | 39 => 146 | 0 => 0 | 53 => 171 | 55 => 173 | 4 => 4 | 46 => 164 | 45 => 163 | 50 => 168 | 5 => 5 | 9 => 9 | 66 => 184 | 70 => 188 | 76 => 194 | 77 => 83 | n => n, fun | n => n⟩
theorem Tryz.sortL : Go.Proofs.SlLaysF0.n6 Tryz.prog Tryz.sortL_ren := {
  mixed := by kernel_rfl
  f6 := ⟨Tryz.f55.name, by decide, Tryz.func55.trans (congrArg some (by kernel_rfl))⟩
  f14 := ⟨Tryz.f69.name, by decide, Tryz.func69.trans (congrArg some (by kernel_rfl))⟩
  f15 := Tryz.func70.trans (congrArg some (by kernel_rfl))
  f20 := ⟨Tryz.f83.name, by decide, Tryz.func83.trans (congrArg some (by kernel_rfl))⟩
  f21 := ⟨Tryz.f84.name, by decide, Tryz.func84.trans (congrArg some (by kernel_rfl))⟩
  f22 := ⟨Tryz.f85.name, by decide, Tryz.func85.trans (congrArg some (by kernel_rfl))⟩
  f23 := ⟨Tryz.f86.name, by decide, Tryz.func86.trans (congrArg some (by kernel_rfl))⟩
  f24 := ⟨Tryz.f87.name, by decide, Tryz.func87.trans (congrArg some (by kernel_rfl))⟩
  f25 := ⟨Tryz.f88.name, by decide, Tryz.func88.trans (congrArg some (by kernel_rfl))⟩
  f26 := ⟨Tryz.f89.name, by decide, Tryz.func89.trans (congrArg some (by kernel_rfl))⟩
  f27 := ⟨Tryz.f90.name, by decide, Tryz.func90.trans (congrArg some (by kernel_rfl))⟩
  f28 := Tryz.func91.trans (congrArg some (by kernel_rfl))
  f29 := Tryz.func92.trans (congrArg some (by kernel_rfl))
  f46 := ⟨Tryz.f103.name, by decide, Tryz.func103.trans (congrArg some (by kernel_rfl))⟩
  f47 := Tryz.func104.trans (congrArg some (by kernel_rfl))
  f48 := Tryz.func105.trans (congrArg some (by kernel_rfl))
  f49 := ⟨Tryz.f106.name, by decide, Tryz.func106.trans (congrArg some (by kernel_rfl))⟩
  f50 := ⟨Tryz.f107.name, by decide, Tryz.func107.trans (congrArg some (by kernel_rfl))⟩
  f57 := ⟨Tryz.f116.name, by decide, Tryz.func116.trans (congrArg some (by kernel_rfl))⟩
  t0 := Tryz.underlying0
  a0 := Tryz.isAgg0
  z0 := Tryz.sizeOf0
  v0 := Tryz.zeroValue0
  t3 := Tryz.underlying3
  a3 := Tryz.isAgg3
  z3 := Tryz.sizeOf3
  v3 := Tryz.zeroValue3
  t4 := Tryz.underlying4
  a4 := Tryz.isAgg4
  z4 := Tryz.sizeOf4
  v4 := Tryz.zeroValue4
  t5 := Tryz.underlying5
  a5 := Tryz.isAgg5
  z5 := Tryz.sizeOf5
  v5 := Tryz.zeroValue5
  t9 := Tryz.underlying9
  a9 := Tryz.isAgg9
  z9 := Tryz.sizeOf9
  v9 := Tryz.zeroValue9
  t22 := Tryz.underlying56
  a22 := Tryz.isAgg56
  z22 := Tryz.sizeOf56
  v22 := Tryz.zeroValue56
  t25 := Tryz.underlying129
  a25 := Tryz.isAgg129
  z25 := Tryz.sizeOf129
  v25 := Tryz.zeroValue129
  t39 := Tryz.underlying146
  a39 := Tryz.isAgg146
  z39 := Tryz.sizeOf146
  v39 := Tryz.zeroValue146
  t45 := Tryz.underlying163
  a45 := Tryz.isAgg163
  z45 := Tryz.sizeOf163
  v45 := Tryz.zeroValue163
  t46 := Tryz.underlying164
  a46 := Tryz.isAgg164
  z46 := Tryz.sizeOf164
  v46 := Tryz.zeroValue164
  t50 := Tryz.underlying168
  a50 := Tryz.isAgg168
  z50 := Tryz.sizeOf168
  v50 := Tryz.zeroValue168
  t53 := Tryz.underlying171
  a53 := Tryz.isAgg171
  z53 := Tryz.sizeOf171
  v53 := Tryz.zeroValue171
  t55 := Tryz.underlying173
  a55 := Tryz.isAgg173
  z55 := Tryz.sizeOf173
  v55 := Tryz.zeroValue173
  t66 := Tryz.underlying184
  a66 := Tryz.isAgg184
  z66 := Tryz.sizeOf184
  v66 := Tryz.zeroValue184
  t70 := Tryz.underlying188
  a70 := Tryz.isAgg188
  z70 := Tryz.sizeOf188
  v70 := Tryz.zeroValue188
  t76 := Tryz.underlying194
  a76 := Tryz.isAgg194
  z76 := Tryz.sizeOf194
  v76 := Tryz.zeroValue194
  t77 := Tryz.underlying83
  a77 := Tryz.isAgg83
  z77 := Tryz.sizeOf83
  v77 := Tryz.zeroValue83 }
end Go.Proofs
