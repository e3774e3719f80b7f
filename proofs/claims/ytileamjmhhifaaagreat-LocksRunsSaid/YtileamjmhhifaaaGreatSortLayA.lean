/-
  Written by the kit's lay-plain: the shelf's contract of slices.SortFunc at this dump's numbers: a table of numbers and one theorem of closed facts. No condition.
-/
import Derived.Shelf.SlSortCmp.WholeK
import Derived.Shelf.SlSortCmp.NoneTotal
import Derived.Test.YtileamjmhhifaaaGreatProg
namespace Go.Proofs
open Go.Shelf
def Tryz.sortAr_ren : Go.Shelf.Ren := ⟨fun | 6 => 42 | 15 => 60 | 14 => 64 | 28 => 73 | 29 => 74 | 20 => 84 | 21 => 85 | 22 => 86 | 23 => 87 | 24 => 88 | 25 => 89 | 26 => 90 | 27 => 91 | 46 => 100 | 47 => 93 | 48 => 94 | 49 => 101 | 50 => 102 | 57 => 105 | n => n, fun | 22 => 46 | 24 => 86 | 25 => 90 | 3 => 3 | 39 => 100 | 0 => 0 | 53 => 114 | 55 => 116 | 4 => 4 | 46 => 107 | 45 => 106 | 50 => 111 | 5 => 5 | 9 => 9 | 66 => 128 | 70 => 132 | 76 => 138 | 77 => 139 | n => n, fun | n => n⟩
theorem Tryz.sortAr : Go.Proofs.SlLaysF0.n6 Tryz.prog Tryz.sortAr_ren := {
  mixed := by kernel_rfl
  f6 := ⟨Tryz.f42.name, by decide, Tryz.func42.trans (congrArg some (by kernel_rfl))⟩
  f14 := ⟨Tryz.f64.name, by decide, Tryz.func64.trans (congrArg some (by kernel_rfl))⟩
  f15 := Tryz.func60.trans (congrArg some (by kernel_rfl))
  f20 := ⟨Tryz.f84.name, by decide, Tryz.func84.trans (congrArg some (by kernel_rfl))⟩
  f21 := ⟨Tryz.f85.name, by decide, Tryz.func85.trans (congrArg some (by kernel_rfl))⟩
  f22 := ⟨Tryz.f86.name, by decide, Tryz.func86.trans (congrArg some (by kernel_rfl))⟩
  f23 := ⟨Tryz.f87.name, by decide, Tryz.func87.trans (congrArg some (by kernel_rfl))⟩
  f24 := ⟨Tryz.f88.name, by decide, Tryz.func88.trans (congrArg some (by kernel_rfl))⟩
  f25 := ⟨Tryz.f89.name, by decide, Tryz.func89.trans (congrArg some (by kernel_rfl))⟩
  f26 := ⟨Tryz.f90.name, by decide, Tryz.func90.trans (congrArg some (by kernel_rfl))⟩
  f27 := ⟨Tryz.f91.name, by decide, Tryz.func91.trans (congrArg some (by kernel_rfl))⟩
  f28 := Tryz.func73.trans (congrArg some (by kernel_rfl))
  f29 := Tryz.func74.trans (congrArg some (by kernel_rfl))
  f46 := ⟨Tryz.f100.name, by decide, Tryz.func100.trans (congrArg some (by kernel_rfl))⟩
  f47 := Tryz.func93.trans (congrArg some (by kernel_rfl))
  f48 := Tryz.func94.trans (congrArg some (by kernel_rfl))
  f49 := ⟨Tryz.f101.name, by decide, Tryz.func101.trans (congrArg some (by kernel_rfl))⟩
  f50 := ⟨Tryz.f102.name, by decide, Tryz.func102.trans (congrArg some (by kernel_rfl))⟩
  f57 := ⟨Tryz.f105.name, by decide, Tryz.func105.trans (congrArg some (by kernel_rfl))⟩
  t0 := Tryz.underlying0
  a0 := Tryz.isAgg0
  z0 := Tryz.sizeOf0
  v0 := Tryz.zeroValue0
  t3 := Tryz.underlying3
  a3 := Tryz.isAgg3
  z3 := Tryz.sizeOf3
  v3 := Tryz.zeroValue3
  t4 := Tryz.underlying4
  a4 := Tryz.isAgg4
  z4 := Tryz.sizeOf4
  v4 := Tryz.zeroValue4
  t5 := Tryz.underlying5
  a5 := Tryz.isAgg5
  z5 := Tryz.sizeOf5
  v5 := Tryz.zeroValue5
  t9 := Tryz.underlying9
  a9 := Tryz.isAgg9
  z9 := Tryz.sizeOf9
  v9 := Tryz.zeroValue9
  t22 := Tryz.underlying46
  a22 := Tryz.isAgg46
  z22 := Tryz.sizeOf46
  v22 := Tryz.zeroValue46
  t25 := Tryz.underlying90
  a25 := Tryz.isAgg90
  z25 := Tryz.sizeOf90
  v25 := Tryz.zeroValue90
  t39 := Tryz.underlying100
  a39 := Tryz.isAgg100
  z39 := Tryz.sizeOf100
  v39 := Tryz.zeroValue100
  t45 := Tryz.underlying106
  a45 := Tryz.isAgg106
  z45 := Tryz.sizeOf106
  v45 := Tryz.zeroValue106
  t46 := Tryz.underlying107
  a46 := Tryz.isAgg107
  z46 := Tryz.sizeOf107
  v46 := Tryz.zeroValue107
  t50 := Tryz.underlying111
  a50 := Tryz.isAgg111
  z50 := Tryz.sizeOf111
  v50 := Tryz.zeroValue111
  t53 := Tryz.underlying114
  a53 := Tryz.isAgg114
  z53 := Tryz.sizeOf114
  v53 := Tryz.zeroValue114
  t55 := Tryz.underlying116
  a55 := Tryz.isAgg116
  z55 := Tryz.sizeOf116
  v55 := Tryz.zeroValue116
  t66 := Tryz.underlying128
  a66 := Tryz.isAgg128
  z66 := Tryz.sizeOf128
  v66 := Tryz.zeroValue128
  t70 := Tryz.underlying132
  a70 := Tryz.isAgg132
  z70 := Tryz.sizeOf132
  v70 := Tryz.zeroValue132
  t76 := Tryz.underlying138
  a76 := Tryz.isAgg138
  z76 := Tryz.sizeOf138
  v76 := Tryz.zeroValue138
  t77 := Tryz.underlying139
  a77 := Tryz.isAgg139
  z77 := Tryz.sizeOf139
  v77 := Tryz.zeroValue139 }
end Go.Proofs
