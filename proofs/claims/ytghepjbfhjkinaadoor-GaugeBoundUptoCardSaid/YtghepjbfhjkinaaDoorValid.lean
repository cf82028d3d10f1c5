/- utf8.ValidString by the library's contract, laid at this dump (the table of numbers and the fields by the kit's lay-plain.mjs); the package-level tables in memory. -/
import Derived.Ground.NamesProg
import Derived.Shelf.Unicode.ValidAny
import Derived.Lib.LaidU8T
import Derived.Lib.ValidLaws
import Derived.Lib.TrimUEq
import Derived.Test.YtghepjbfhjkinaaDoorCtab
namespace Go.Proofs.YtghepjbfhjkinaaDoor
open Go.RowKit Go.Shelf Gim
def laysValid_ren : Go.Shelf.Ren := ⟨fun | 196 => 28 | 259 => 33 | n => n, fun | 9 => 9 | 4 => 4 | 3 => 3 | 5 => 5 | 12 => 12 | 119 => 69 | 0 => 0 | 46 => 48 | 139 => 72 | 138 => 71 | 53 => 42 | n => n, fun | 3 => 0 | 4 => 1 | n => n⟩
theorem laysValid : Go.Proofs.Lays.n196 Tryd.prog laysValid_ren := {
  mixed := by kernel_rfl
  f196 := Tryd.func28.trans (congrArg some (by kernel_rfl))
  f259 := Tryd.func33.trans (congrArg some (by kernel_rfl))
  t0 := Tryd.underlying0
  a0 := Tryd.isAgg0
  z0 := Tryd.sizeOf0
  v0 := Tryd.zeroValue0
  t3 := Tryd.underlying3
  a3 := Tryd.isAgg3
  z3 := Tryd.sizeOf3
  v3 := Tryd.zeroValue3
  t4 := Tryd.underlying4
  a4 := Tryd.isAgg4
  z4 := Tryd.sizeOf4
  v4 := Tryd.zeroValue4
  t5 := Tryd.underlying5
  a5 := Tryd.isAgg5
  z5 := Tryd.sizeOf5
  v5 := Tryd.zeroValue5
  t9 := Tryd.underlying9
  a9 := Tryd.isAgg9
  z9 := Tryd.sizeOf9
  v9 := Tryd.zeroValue9
  t12 := Tryd.underlying12
  a12 := Tryd.isAgg12
  z12 := Tryd.sizeOf12
  v12 := Tryd.zeroValue12
  t46 := Tryd.underlying48
  a46 := Tryd.isAgg48
  z46 := Tryd.sizeOf48
  v46 := Tryd.zeroValue48
  t53 := Tryd.underlying42
  a53 := Tryd.isAgg42
  z53 := Tryd.sizeOf42
  v53 := Tryd.zeroValue42
  t138 := Tryd.underlying71
  a138 := Tryd.isAgg71
  z138 := Tryd.sizeOf71
  v138 := Tryd.zeroValue71
  t139 := Tryd.underlying72
  a139 := Tryd.isAgg72
  z139 := Tryd.sizeOf72
  v139 := Tryd.zeroValue72
  t119 := Tryd.underlying69
  a119 := Tryd.isAgg69
  z119 := Tryd.sizeOf69
  g3 := by kernel_rfl
  g4 := by kernel_rfl }
theorem u8Extra : U8Extra Tryd.prog laysValid_ren := ⟨by kernel_rfl, by kernel_rfl, by kernel_rfl, by kernel_rfl, by kernel_rfl, by kernel_rfl, by kernel_rfl⟩

/-- what start-up lays: the classes and utf8's tables -/
structure Laid (w : World) : Prop where
  tab : Tab 2 w
  u8 : Lib.Utf8Tabs 0 1 w
theorem Laid.below {w w' : World} (h : Laid w) (hb : Below w.heap.size w w') : Laid w' := ⟨h.tab.below hb, Utf8Tabs_below h.u8 hb⟩
theorem Laid.drewN {w : World} (h : Laid w) (m : Nat) : Laid (w.drewN m) := h.below (((Drew.refl w).drewN m).below _)

theorem valid_calls (s : ByteArray) (w : World) (hs : s.size ≤ 9223372036854775807) (hT : Laid w) :
    Calls Tryd.prog 28 #[.string s] w fun e w' => e = .returned (.bool (Lib.validD s.data.toList)) ∧ Below w.heap.size w w' :=
  Any.utf8_ValidString laysValid s w hs hT.u8
end Go.Proofs.YtghepjbfhjkinaaDoor
