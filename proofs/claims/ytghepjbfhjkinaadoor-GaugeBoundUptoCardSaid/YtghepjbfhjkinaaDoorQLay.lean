/- strings.Contains and math/bits.Mul64 by the library's contracts. The tables of numbers and the fields are printed by the kit (lay-plain.mjs, wip/mklay.py). -/
import Derived.Ground.NamesProg
import Derived.Shelf.Strings.Search3
import Derived.Shelf.Bits.Mul64
import Derived.Test.YtghepjbfhjkinaaDoorProg
namespace Go.Proofs.YtghepjbfhjkinaaDoor
open Go.Shelf
def laysContains_ren : Go.Shelf.Ren := ⟨fun | 144 => 34 | 143 => 35 | 219 => 36 | 217 => 37 | 225 => 38 | 224 => 39 | 267 => 40 | 266 => 41 | 314 => 42 | n => n, fun | 9 => 9 | 4 => 4 | 3 => 3 | 5 => 5 | 46 => 48 | 146 => 79 | 51 => 78 | n => n, fun | 1 => 3 | n => n⟩
theorem laysContains : Go.Proofs.Lays.n144 Tryd.prog laysContains_ren := {
  mixed := by kernel_rfl
  f143 := Tryd.func35.trans (congrArg some (by kernel_rfl))
  f144 := Tryd.func34.trans (congrArg some (by kernel_rfl))
  f217 := Tryd.func37.trans (congrArg some (by kernel_rfl))
  f219 := Tryd.func36.trans (congrArg some (by kernel_rfl))
  f224 := Tryd.func39.trans (congrArg some (by kernel_rfl))
  f225 := Tryd.func38.trans (congrArg some (by kernel_rfl))
  f266 := Tryd.func41.trans (congrArg some (by kernel_rfl))
  f267 := Tryd.func40.trans (congrArg some (by kernel_rfl))
  f314 := Tryd.func42.trans (congrArg some (by kernel_rfl))
  t3 := Tryd.underlying3
  a3 := Tryd.isAgg3
  z3 := Tryd.sizeOf3
  v3 := Tryd.zeroValue3
  t4 := Tryd.underlying4
  a4 := Tryd.isAgg4
  z4 := Tryd.sizeOf4
  v4 := Tryd.zeroValue4
  t5 := Tryd.underlying5
  a5 := Tryd.isAgg5
  z5 := Tryd.sizeOf5
  v5 := Tryd.zeroValue5
  t9 := Tryd.underlying9
  a9 := Tryd.isAgg9
  z9 := Tryd.sizeOf9
  v9 := Tryd.zeroValue9
  t46 := Tryd.underlying48
  a46 := Tryd.isAgg48
  z46 := Tryd.sizeOf48
  v46 := Tryd.zeroValue48
  t51 := Tryd.underlying78
  a51 := Tryd.isAgg78
  z51 := Tryd.sizeOf78
  v51 := Tryd.zeroValue78
  t146 := Tryd.underlying79
  a146 := Tryd.isAgg79
  z146 := Tryd.sizeOf79
  v146 := Tryd.zeroValue79
  g1 := by kernel_rfl }
def laysMul64_ren : Go.Shelf.Ren := ⟨fun | 264 => 10 | n => n, fun | 53 => 42 | 46 => 48 | n => n, fun | n => n⟩
theorem laysMul64 : Go.Proofs.Lays.n264 Tryd.prog laysMul64_ren := {
  mixed := by kernel_rfl
  f264 := Tryd.func10.trans (congrArg some (by kernel_rfl))
  t46 := Tryd.underlying48
  a46 := Tryd.isAgg48
  z46 := Tryd.sizeOf48
  v46 := Tryd.zeroValue48
  t53 := Tryd.underlying42
  a53 := Tryd.isAgg42
  z53 := Tryd.sizeOf42
  v53 := Tryd.zeroValue42 }
end Go.Proofs.YtghepjbfhjkinaaDoor
