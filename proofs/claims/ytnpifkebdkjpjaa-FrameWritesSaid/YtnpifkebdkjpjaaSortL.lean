/-
  The library's sort, laid at keys (written by the kit's lay-plain tool).
-/
import Derived.Shelf.SlLaysF0
import Derived.Shelf.SlGeneric
import Derived.Test.YtnpifkebdkjpjaaProg
namespace Go.Proofs.Ytnpifkebdkjpjaa
open Go.Shelf
def Try.sortKey_ren : Go.Shelf.Ren := ⟨fun | 6 => 66 | 15 => 87 | 14 => 86 | 28 => 100 | 29 => 101 | 20 => 92 | 21 => 93 | 22 => 94 | 23 => 95 | 24 => 96 | 25 => 97 | 26 => 98 | 27 => 99 | 46 => 103 | 47 => 104 | 48 => 105 | 49 => 106 | 50 => 107 | 57 => 108 | n => n, fun | 22 => 42 | 24 => 35 | 25 => 104 | 3 => 3 | 39 => 101 | 0 => 0 | 53 => 36 | 55 => 133 | 4 => 4 | 46 => 144 | 45 => 143 | 50 => 116 | 5 => 5 | 9 => 9 | 66 => 152 | 70 => 156 | 76 => 158 | 77 => 159 | n => n, fun | n => n⟩
theorem Try.sortKey : Go.Proofs.SlLaysF0.n6 Try.prog Try.sortKey_ren := {
  mixed := by kernel_rfl
  f6 := ⟨Try.f66.name, by decide, Try.func66.trans (congrArg some (by kernel_rfl))⟩
  f14 := ⟨Try.f86.name, by decide, Try.func86.trans (congrArg some (by kernel_rfl))⟩
  f15 := Try.func87.trans (congrArg some (by kernel_rfl))
  f20 := ⟨Try.f92.name, by decide, Try.func92.trans (congrArg some (by kernel_rfl))⟩
  f21 := ⟨Try.f93.name, by decide, Try.func93.trans (congrArg some (by kernel_rfl))⟩
  f22 := ⟨Try.f94.name, by decide, Try.func94.trans (congrArg some (by kernel_rfl))⟩
  f23 := ⟨Try.f95.name, by decide, Try.func95.trans (congrArg some (by kernel_rfl))⟩
  f24 := ⟨Try.f96.name, by decide, Try.func96.trans (congrArg some (by kernel_rfl))⟩
  f25 := ⟨Try.f97.name, by decide, Try.func97.trans (congrArg some (by kernel_rfl))⟩
  f26 := ⟨Try.f98.name, by decide, Try.func98.trans (congrArg some (by kernel_rfl))⟩
  f27 := ⟨Try.f99.name, by decide, Try.func99.trans (congrArg some (by kernel_rfl))⟩
  f28 := Try.func100.trans (congrArg some (by kernel_rfl))
  f29 := Try.func101.trans (congrArg some (by kernel_rfl))
  f46 := ⟨Try.f103.name, by decide, Try.func103.trans (congrArg some (by kernel_rfl))⟩
  f47 := Try.func104.trans (congrArg some (by kernel_rfl))
  f48 := Try.func105.trans (congrArg some (by kernel_rfl))
  f49 := ⟨Try.f106.name, by decide, Try.func106.trans (congrArg some (by kernel_rfl))⟩
  f50 := ⟨Try.f107.name, by decide, Try.func107.trans (congrArg some (by kernel_rfl))⟩
  f57 := ⟨Try.f108.name, by decide, Try.func108.trans (congrArg some (by kernel_rfl))⟩
  t0 := Try.underlying0
  a0 := Try.isAgg0
  z0 := Try.sizeOf0
  v0 := Try.zeroValue0
  t3 := Try.underlying3
  a3 := Try.isAgg3
  z3 := Try.sizeOf3
  v3 := Try.zeroValue3
  t4 := Try.underlying4
  a4 := Try.isAgg4
  z4 := Try.sizeOf4
  v4 := Try.zeroValue4
  t5 := Try.underlying5
  a5 := Try.isAgg5
  z5 := Try.sizeOf5
  v5 := Try.zeroValue5
  t9 := Try.underlying9
  a9 := Try.isAgg9
  z9 := Try.sizeOf9
  v9 := Try.zeroValue9
  t22 := Try.underlying42
  a22 := Try.isAgg42
  z22 := Try.sizeOf42
  v22 := Try.zeroValue42
  t25 := Try.underlying104
  a25 := Try.isAgg104
  z25 := Try.sizeOf104
  v25 := Try.zeroValue104
  t39 := Try.underlying101
  a39 := Try.isAgg101
  z39 := Try.sizeOf101
  v39 := Try.zeroValue101
  t45 := Try.underlying143
  a45 := Try.isAgg143
  z45 := Try.sizeOf143
  v45 := Try.zeroValue143
  t46 := Try.underlying144
  a46 := Try.isAgg144
  z46 := Try.sizeOf144
  v46 := Try.zeroValue144
  t50 := Try.underlying116
  a50 := Try.isAgg116
  z50 := Try.sizeOf116
  v50 := Try.zeroValue116
  t53 := Try.underlying36
  a53 := Try.isAgg36
  z53 := Try.sizeOf36
  v53 := Try.zeroValue36
  t55 := Try.underlying133
  a55 := Try.isAgg133
  z55 := Try.sizeOf133
  v55 := Try.zeroValue133
  t66 := Try.underlying152
  a66 := Try.isAgg152
  z66 := Try.sizeOf152
  v66 := Try.zeroValue152
  t70 := Try.underlying156
  a70 := Try.isAgg156
  z70 := Try.sizeOf156
  v70 := Try.zeroValue156
  t76 := Try.underlying158
  a76 := Try.isAgg158
  z76 := Try.sizeOf158
  v76 := Try.zeroValue158
  t77 := Try.underlying159
  a77 := Try.isAgg159
  z77 := Try.sizeOf159
  v77 := Try.zeroValue159 }
end Go.Proofs.Ytnpifkebdkjpjaa
