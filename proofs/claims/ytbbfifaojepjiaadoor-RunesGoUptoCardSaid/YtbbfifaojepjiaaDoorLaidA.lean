/- From the row's list of package-level variables to utf8's tables; a world that lays them. -/
import Derived.Test.YtbbfifaojepjiaaDoorDecode
import Derived.Test.YtbbfifaojepjiaaDoorRows
import Derived.Lib.LaidIn
import Derived.Lib.LaidU8T
import Derived.Deep.DeepHandedRow
import Derived.Deep.DeepWitnessRowRef
namespace Go.Proofs.YtbbfifaojepjiaaDoor
open Go.ChangeShapes Go.WideShapes Go.RowKit Go.Shelf Go.Lib Gim
theorem first_data : Rows.laid_unicode_utf8_first = Lib.firstData := by kernel_rfl
theorem accept_data : (Rows.laid_unicode_utf8_acceptRanges : DataW Unit) = Lib.acceptData := by kernel_rfl
def u8_ren : Go.Shelf.Ren := ⟨fun n => n, fun | 5 => 5 | 119 => 66 | 138 => 68 | 139 => 69 | n => n, fun | 3 => 1 | 4 => 2 | n => n⟩
theorem u8Types : U8Types Tryd.prog u8_ren := ⟨Tryd.underlying5, Tryd.underlying66, Tryd.underlying68, Tryd.underlying69⟩
theorem u8Extra : U8Extra Tryd.prog u8_ren := ⟨by kernel_rfl, by kernel_rfl, by kernel_rfl, by kernel_rfl, by kernel_rfl, by kernel_rfl, by kernel_rfl⟩
/-- the list of each row of this seat -/
def laidList : List (String × DataW Unit) := [("unicode/utf8.acceptRanges", Rows.laid_unicode_utf8_acceptRanges), ("unicode/utf8.first", Rows.laid_unicode_utf8_first)]
theorem laid_of {W : World} (hL : laidMetH Tryd.prog laidList W) : U8 W :=
  utf8Tabs_of_readsT u8Types u8Extra (first_data ▸ laidMet.reads (l := laidList) hL (.tail _ (.head _))) (accept_data ▸ laidMet.reads (l := laidList) hL (.head _))
/-- a world that holds them: the settled one -/
noncomputable def laidWorld (os : Os) : World :=
  let w0 := World.holding Tryd.prog os ⟨#[], #[], []⟩
  let put (h : Array Obj) (g : Nat) (cs : Array Value) : Array Obj := h.modify g fun
    | .cells _ t frozen => .cells cs t frozen
    | o => o
  let h1 := put w0.heap 1 (Lib.firstTab.map fun z => Value.int .u8 z).toArray
  let h2 := put h1 2 ((List.range 16).flatMap fun i => [Value.int .u8 (Lib.accLo i), Value.int .u8 (Lib.accHi i)]).toArray
  { w0 with heap := h2 }
theorem laid_met (os : Os) (args : Array Value) : laidMet Tryd.prog laidList ((laidWorld os).forCall (fun _ _ => 0) ⟨#[], args, []⟩).memory :=
  laidMet_of_run' 8 (by kernel_rfl) (by kernel_rfl)
end Go.Proofs.YtbbfifaojepjiaaDoor
