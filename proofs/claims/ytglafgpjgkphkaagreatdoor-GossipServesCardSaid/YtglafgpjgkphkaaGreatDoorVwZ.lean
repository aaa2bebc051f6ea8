/- A library contract laid at this program, in plain words (as lay-plain.mjs writes it). -/
import Derived.Test.YtglafgpjgkphkaaGreatDoorProg
import Derived.KernelRfl
import Derived.Shelf.SlLaysF0
import Derived.Shelf.SlSortCmp.WholeK
set_option maxRecDepth 100000
namespace Go.Proofs.YtglafgpjgkphkaaGreatDoor
open Go.RowKit
open Go.Shelf

def sortVw_ren : Go.Shelf.Ren := ⟨fun | 6 => 47 | 15 => 62 | 14 => 61 | 28 => 83 | 29 => 84 | 20 => 75 | 21 => 76 | 22 => 77 | 23 => 78 | 24 => 79 | 25 => 80 | 26 => 81 | 27 => 82 | 46 => 87 | 47 => 88 | 48 => 89 | 49 => 90 | 50 => 91 | 57 => 92 | n => n, fun | 22 => 75 | 24 => 104 | 25 => 112 | 3 => 3 | 39 => 135 | 0 => 0 | 53 => 158 | 55 => 160 | 4 => 4 | 46 => 152 | 45 => 151 | 50 => 125 | 5 => 5 | 9 => 9 | 66 => 173 | 70 => 177 | 76 => 179 | 77 => 129 | n => n, fun | n => n⟩
theorem sortVw : Go.Proofs.SlLaysF0.n6 Tryz.prog sortVw_ren := {
  mixed := by kernel_rfl
  f6 := ⟨Tryz.f47.name, by decide, Tryz.func47.trans (congrArg some (by kernel_rfl))⟩
  f14 := ⟨Tryz.f61.name, by decide, Tryz.func61.trans (congrArg some (by kernel_rfl))⟩
  f15 := Tryz.func62.trans (congrArg some (by kernel_rfl))
  f20 := ⟨Tryz.f75.name, by decide, Tryz.func75.trans (congrArg some (by kernel_rfl))⟩
  f21 := ⟨Tryz.f76.name, by decide, Tryz.func76.trans (congrArg some (by kernel_rfl))⟩
  f22 := ⟨Tryz.f77.name, by decide, Tryz.func77.trans (congrArg some (by kernel_rfl))⟩
  f23 := ⟨Tryz.f78.name, by decide, Tryz.func78.trans (congrArg some (by kernel_rfl))⟩
  f24 := ⟨Tryz.f79.name, by decide, Tryz.func79.trans (congrArg some (by kernel_rfl))⟩
  f25 := ⟨Tryz.f80.name, by decide, Tryz.func80.trans (congrArg some (by kernel_rfl))⟩
  f26 := ⟨Tryz.f81.name, by decide, Tryz.func81.trans (congrArg some (by kernel_rfl))⟩
  f27 := ⟨Tryz.f82.name, by decide, Tryz.func82.trans (congrArg some (by kernel_rfl))⟩
  f28 := Tryz.func83.trans (congrArg some (by kernel_rfl))
  f29 := Tryz.func84.trans (congrArg some (by kernel_rfl))
  f46 := ⟨Tryz.f87.name, by decide, Tryz.func87.trans (congrArg some (by kernel_rfl))⟩
  f47 := Tryz.func88.trans (congrArg some (by kernel_rfl))
  f48 := Tryz.func89.trans (congrArg some (by kernel_rfl))
  f49 := ⟨Tryz.f90.name, by decide, Tryz.func90.trans (congrArg some (by kernel_rfl))⟩
  f50 := ⟨Tryz.f91.name, by decide, Tryz.func91.trans (congrArg some (by kernel_rfl))⟩
  f57 := ⟨Tryz.f92.name, by decide, Tryz.func92.trans (congrArg some (by kernel_rfl))⟩
  t0 := Tryz.underlying0
  a0 := Tryz.isAgg0
  z0 := Tryz.sizeOf0
  v0 := Tryz.zeroValue0
  t3 := Tryz.underlying3
  a3 := Tryz.isAgg3
  z3 := Tryz.sizeOf3
  v3 := Tryz.zeroValue3
  t4 := Tryz.underlying4
  a4 := Tryz.isAgg4
  z4 := Tryz.sizeOf4
  v4 := Tryz.zeroValue4
  t5 := Tryz.underlying5
  a5 := Tryz.isAgg5
  z5 := Tryz.sizeOf5
  v5 := Tryz.zeroValue5
  t9 := Tryz.underlying9
  a9 := Tryz.isAgg9
  z9 := Tryz.sizeOf9
  v9 := Tryz.zeroValue9
  t22 := Tryz.underlying75
  a22 := Tryz.isAgg75
  z22 := Tryz.sizeOf75
  v22 := Tryz.zeroValue75
  t25 := Tryz.underlying112
  a25 := Tryz.isAgg112
  z25 := Tryz.sizeOf112
  v25 := Tryz.zeroValue112
  t39 := Tryz.underlying135
  a39 := Tryz.isAgg135
  z39 := Tryz.sizeOf135
  v39 := Tryz.zeroValue135
  t45 := Tryz.underlying151
  a45 := Tryz.isAgg151
  z45 := Tryz.sizeOf151
  v45 := Tryz.zeroValue151
  t46 := Tryz.underlying152
  a46 := Tryz.isAgg152
  z46 := Tryz.sizeOf152
  v46 := Tryz.zeroValue152
  t50 := Tryz.underlying125
  a50 := Tryz.isAgg125
  z50 := Tryz.sizeOf125
  v50 := Tryz.zeroValue125
  t53 := Tryz.underlying158
  a53 := Tryz.isAgg158
  z53 := Tryz.sizeOf158
  v53 := Tryz.zeroValue158
  t55 := Tryz.underlying160
  a55 := Tryz.isAgg160
  z55 := Tryz.sizeOf160
  v55 := Tryz.zeroValue160
  t66 := Tryz.underlying173
  a66 := Tryz.isAgg173
  z66 := Tryz.sizeOf173
  v66 := Tryz.zeroValue173
  t70 := Tryz.underlying177
  a70 := Tryz.isAgg177
  z70 := Tryz.sizeOf177
  v70 := Tryz.zeroValue177
  t76 := Tryz.underlying179
  a76 := Tryz.isAgg179
  z76 := Tryz.sizeOf179
  v76 := Tryz.zeroValue179
  t77 := Tryz.underlying129
  a77 := Tryz.isAgg129
  z77 := Tryz.sizeOf129
  v77 := Tryz.zeroValue129 }
end Go.Proofs.YtglafgpjgkphkaaGreatDoor
