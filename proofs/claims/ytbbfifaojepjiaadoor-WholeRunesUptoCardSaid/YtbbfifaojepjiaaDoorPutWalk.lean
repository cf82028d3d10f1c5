/- The walk of runes.Put, by the library's contract of utf8.AppendRune. -/
import Derived.Test.YtbbfifaojepjiaaDoorHanded
import Derived.Shelf.Utf8.AppendRunePlain
import Derived.Ground.NamesProg
namespace Go.Proofs.YtbbfifaojepjiaaDoor
open Go.RowKit Go.Shelf Gim
def laysPut_ren : Go.Shelf.Ren := ⟨fun | 242 => 23 | 278 => 32 | n => n, fun | 4 => 4 | 5 => 5 | 21 => 21 | 37 => 32 | 46 => 23 | 51 => 65 | n => n, fun | n => n⟩
theorem laysPut : Go.Proofs.Lays.n242 Tryd.prog laysPut_ren := {
  mixed := by kernel_rfl
  f242 := Tryd.func23.trans (congrArg some (by kernel_rfl))
  f278 := Tryd.func32.trans (congrArg some (by kernel_rfl))
  t4 := Tryd.underlying4
  a4 := Tryd.isAgg4
  z4 := Tryd.sizeOf4
  v4 := Tryd.zeroValue4
  t5 := Tryd.underlying5
  a5 := Tryd.isAgg5
  z5 := Tryd.sizeOf5
  v5 := Tryd.zeroValue5
  t21 := Tryd.underlying21
  a21 := Tryd.isAgg21
  z21 := Tryd.sizeOf21
  v21 := Tryd.zeroValue21
  t37 := Tryd.underlying32
  a37 := Tryd.isAgg32
  z37 := Tryd.sizeOf32
  v37 := Tryd.zeroValue32
  t46 := Tryd.underlying23
  a46 := Tryd.isAgg23
  z46 := Tryd.sizeOf23
  v46 := Tryd.zeroValue23
  t51 := Tryd.underlying65
  a51 := Tryd.isAgg65
  z51 := Tryd.sizeOf65
  v51 := Tryd.zeroValue65 }
-- gimlet/runes.Put
set_option maxHeartbeats 1000000 in
theorem put_calls (w : World) (ao : Option Addr) (n cap : Nat) (xs : List Int) (h : Rd w .u8 ao n cap xs) (hnone : ao = none → n = 0 ∧ cap = 0) (r : Int) (hr0 : -2147483648 ≤ r) (hr1 : r ≤ 2147483647) (hn : n ≤ 140737488355000) :
    Calls Tryd.prog 10 #[.slice ao n cap, .int .i32 r] w (GivesRow w 5 .u8 (xs ++ Lib.encodeRuneZ r)) := by
  obtain ⟨i0, hi, hz0, hz1, hz2⟩ := info_parts info_u8
  have hle := h.le
  have HL := Lib.hid h.len
  have hnn : (0 : Int) ≤ (n : Int) + 4 := by omega
  have HN4 : Hid ((n : Int) + 4 = ((n + 4 : Nat) : Int)) := Lib.hid (by omega)
  go_enter Tryd.func10, Tryd.ntmps10
  go_wp2_with (first
    | (at_make; rw [HN4.out]; refine wpList_make_own _ rfl _ _ 32 rfl w.heap.size 5 i0 (.int .u8 0) 1 Tryd.underlying32 hi hz0 hz1 _ _ _ (n + 4) rfl rfl (by omega) (by rw [hz2]; omega) (by unfold maxLen; omega) (Nat.le_refl _) ?_; intro w1 hown1 hgrow1; have hb1 : Below w.heap.size w w1 := (Below.refl _ _).grown hgrow1 (Nat.le_refl _) (fun k hk => by cases hk))
    | (at_builtin; refine append_rd _ rfl _ _ rfl w.heap.size _ [] rfl hown1 ao n cap xs rfl (h.below hb1) hnone (by simp; omega) hb1.size ?_; intro v2 w2 hrow hgrow))
  have hb2 : Below w.heap.size w w2 := hb1.grown hgrow hb1.size (fun j hj => (hown1.lt j hj).1)
  rw [List.nil_append] at hrow
  have hlen := hrow.2
  refine (Any.utf8_AppendRune_plain laysPut (by kernel_rfl) w.heap.size v2 _ _ r hr0 hr1 w2 hrow (by rw [HL.out]; omega) hb2.size).mono ?_
  rintro e w3 ⟨v3, rfl, hown3, o, hgrow3⟩
  have hb3 : Below w.heap.size w w3 := (hb2.alloc hb2.size o).grown hgrow3 (by simp; have := hb2.size; omega) (fun j hj => (World.ownsRow.lt hrow j hj).1)
  go_wp2
  go_ret
  refine ⟨_, rfl, ?_, hb3⟩
  unfold Row
  rw [List.length_append, List.map_append]
  have hcl : (Lib.runeCells r).length = (Lib.encodeRuneZ r).length := by simp [Lib.runeCells]
  rw [hcl] at hown3
  exact hown3
end Go.Proofs.YtbbfifaojepjiaaDoor
