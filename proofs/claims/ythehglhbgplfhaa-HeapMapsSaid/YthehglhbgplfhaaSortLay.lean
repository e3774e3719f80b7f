/-
  Written by the kit's lay-plain: the shelf's contract of slices.SortFunc at this dump's numbers: a table of numbers and one theorem of closed facts. No condition.
-/
import Derived.Shelf.SlSortCmp.WholeK
import Derived.Shelf.SlSortCmp.NoneTotal
import Derived.Test.YthehglhbgplfhaaProg
namespace Go.Proofs
open Go.Shelf
def Try.sortPr_ren : Go.Shelf.Ren := ⟨fun | 6 => 57 | 15 => 69 | 14 => 68 | 28 => 82 | 29 => 83 | 20 => 74 | 21 => 75 | 22 => 76 | 23 => 77 | 24 => 78 | 25 => 79 | 26 => 80 | 27 => 81 | 46 => 97 | 47 => 98 | 48 => 99 | 49 => 100 | 50 => 101 | 57 => 108 | n => n, fun | 22 => 86 | 24 => 90 | 25 => 128 | 3 => 3 | 39 => 139 | 0 => 0 | 53 => 154 | 55 => 133 | 4 => 4 | 46 => 147 | 45 => 146 | 50 => 151 | 5 => 5 | 9 => 9 | 66 => 166 | 70 => 170 | 76 => 179 | 77 => 180 | n => n, fun | n => n⟩
theorem Try.sortPr : Go.Proofs.SlLaysF0.n6 Try.prog Try.sortPr_ren := {
  mixed := by kernel_rfl
  f6 := ⟨Try.f57.name, by decide, Try.func57.trans (congrArg some (by kernel_rfl))⟩
  f14 := ⟨Try.f68.name, by decide, Try.func68.trans (congrArg some (by kernel_rfl))⟩
  f15 := Try.func69.trans (congrArg some (by kernel_rfl))
  f20 := ⟨Try.f74.name, by decide, Try.func74.trans (congrArg some (by kernel_rfl))⟩
  f21 := ⟨Try.f75.name, by decide, Try.func75.trans (congrArg some (by kernel_rfl))⟩
  f22 := ⟨Try.f76.name, by decide, Try.func76.trans (congrArg some (by kernel_rfl))⟩
  f23 := ⟨Try.f77.name, by decide, Try.func77.trans (congrArg some (by kernel_rfl))⟩
  f24 := ⟨Try.f78.name, by decide, Try.func78.trans (congrArg some (by kernel_rfl))⟩
  f25 := ⟨Try.f79.name, by decide, Try.func79.trans (congrArg some (by kernel_rfl))⟩
  f26 := ⟨Try.f80.name, by decide, Try.func80.trans (congrArg some (by kernel_rfl))⟩
  f27 := ⟨Try.f81.name, by decide, Try.func81.trans (congrArg some (by kernel_rfl))⟩
  f28 := Try.func82.trans (congrArg some (by kernel_rfl))
  f29 := Try.func83.trans (congrArg some (by kernel_rfl))
  f46 := ⟨Try.f97.name, by decide, Try.func97.trans (congrArg some (by kernel_rfl))⟩
  f47 := Try.func98.trans (congrArg some (by kernel_rfl))
  f48 := Try.func99.trans (congrArg some (by kernel_rfl))
  f49 := ⟨Try.f100.name, by decide, Try.func100.trans (congrArg some (by kernel_rfl))⟩
  f50 := ⟨Try.f101.name, by decide, Try.func101.trans (congrArg some (by kernel_rfl))⟩
  f57 := ⟨Try.f108.name, by decide, Try.func108.trans (congrArg some (by kernel_rfl))⟩
  t0 := Try.underlying0
  a0 := Try.isAgg0
  z0 := Try.sizeOf0
  v0 := Try.zeroValue0
  t3 := Try.underlying3
  a3 := Try.isAgg3
  z3 := Try.sizeOf3
  v3 := Try.zeroValue3
  t4 := Try.underlying4
  a4 := Try.isAgg4
  z4 := Try.sizeOf4
  v4 := Try.zeroValue4
  t5 := Try.underlying5
  a5 := Try.isAgg5
  z5 := Try.sizeOf5
  v5 := Try.zeroValue5
  t9 := Try.underlying9
  a9 := Try.isAgg9
  z9 := Try.sizeOf9
  v9 := Try.zeroValue9
  t22 := Try.underlying86
  a22 := Try.isAgg86
  z22 := Try.sizeOf86
  v22 := Try.zeroValue86
  t25 := Try.underlying128
  a25 := Try.isAgg128
  z25 := Try.sizeOf128
  v25 := Try.zeroValue128
  t39 := Try.underlying139
  a39 := Try.isAgg139
  z39 := Try.sizeOf139
  v39 := Try.zeroValue139
  t45 := Try.underlying146
  a45 := Try.isAgg146
  z45 := Try.sizeOf146
  v45 := Try.zeroValue146
  t46 := Try.underlying147
  a46 := Try.isAgg147
  z46 := Try.sizeOf147
  v46 := Try.zeroValue147
  t50 := Try.underlying151
  a50 := Try.isAgg151
  z50 := Try.sizeOf151
  v50 := Try.zeroValue151
  t53 := Try.underlying154
  a53 := Try.isAgg154
  z53 := Try.sizeOf154
  v53 := Try.zeroValue154
  t55 := Try.underlying133
  a55 := Try.isAgg133
  z55 := Try.sizeOf133
  v55 := Try.zeroValue133
  t66 := Try.underlying166
  a66 := Try.isAgg166
  z66 := Try.sizeOf166
  v66 := Try.zeroValue166
  t70 := Try.underlying170
  a70 := Try.isAgg170
  z70 := Try.sizeOf170
  v70 := Try.zeroValue170
  t76 := Try.underlying179
  a76 := Try.isAgg179
  z76 := Try.sizeOf179
  v76 := Try.zeroValue179
  t77 := Try.underlying180
  a77 := Try.isAgg180
  z77 := Try.sizeOf180
  v77 := Try.zeroValue180 }
end Go.Proofs
