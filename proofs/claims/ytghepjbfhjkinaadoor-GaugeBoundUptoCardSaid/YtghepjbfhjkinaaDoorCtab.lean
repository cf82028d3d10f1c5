/- The table chars.ranges in memory, and chars.of. -/
import Derived.Test.YtghepjbfhjkinaaDoorCls
import Derived.Test.YtghepjbfhjkinaaDoorBase
import Derived.Lib.SmallJoins
namespace Gim
open Go Go.RowKit
theorem add_block (a : Addr) (n : Nat) : (a.add n).block = a.block := by unfold Addr.add; split <;> rfl
/-- a slice of pairs of numbers of kind k, to be read -/
structure Prs (w : World) (k : IntKind) (ao : Option Addr) (n cap : Nat) (ps : List (Int × Int)) : Prop where
  len : ps.length = n
  le : n ≤ cap
  cap_le : cap ≤ maxLen
  cell : ∀ j, j < n → ∃ a, ao = some a ∧ a.block < w.heap.size ∧ w.cell? (a.add (j * 2)) = some (.int k (lo ps j)) ∧ w.cell? ⟨(a.add (j * 2)).block, (a.add (j * 2)).off + 1, none⟩ = some (.int k (hi ps j))
theorem Prs.below {w w' : World} {k : IntKind} {ao : Option Addr} {n cap : Nat} {ps : List (Int × Int)} (h : Prs w k ao n cap ps) (hb : Below w.heap.size w w') : Prs w' k ao n cap ps :=
  ⟨h.len, h.le, h.cap_le, fun j hj => by
    obtain ⟨a, h1, h2, h3, h4⟩ := h.cell j hj
    exact ⟨a, h1, Nat.lt_of_lt_of_le h2 hb.size, (hb.cell (p := a.add (j * 2)) (by simpa [add_block] using h2)).trans h3, (hb.cell (p := ⟨(a.add (j * 2)).block, (a.add (j * 2)).off + 1, none⟩) (by simpa [add_block] using h2)).trans h4⟩⟩
/-- the variable chars.ranges (block g) holds the classes -/
def Tab (g : Nat) (w : World) : Prop := g < w.heap.size ∧ ∀ c : Nat, c < 6 → ∃ ao n cap, w.cell? ⟨g, c, none⟩ = some (.slice ao n cap) ∧ Prs w .i32 ao n cap (cls c)
theorem Tab.below {g : Nat} {w w' : World} (h : Tab g w) (hb : Below w.heap.size w w') : Tab g w' :=
  ⟨Nat.lt_of_lt_of_le h.1 hb.size, fun c hc => by
    obtain ⟨ao, n, cap, h1, h2⟩ := h.2 c hc
    exact ⟨ao, n, cap, (hb.cell (p := ⟨g, c, none⟩) h.1).trans h1, h2.below hb⟩⟩
end Gim
namespace Go.Proofs.YtghepjbfhjkinaaDoor
open Go.RowKit Gim
-- gimlet/chars.of
theorem of_calls (w : World) (c : Int) (hT : Tab 2 w) : Calls Tryd.prog 32 #[.int .i64 c] w fun e w' => ∃ ao n cap, e = .returned (.slice ao n cap) ∧ Prs w' .i32 ao n cap (cls c) ∧ Drew w w' := by
  by_cases h0 : c < 0
  · have hc : cls c = [] := by unfold cls; repeat' (first | rfl | rw [if_neg (by omega)])
    have H := Lib.hid hc
    clear hc
    go_enter Tryd.func32, Tryd.ntmps32
    go_wp2
    go_ret
    exact ⟨none, 0, 0, rfl, by rw [H.out]; exact ⟨rfl, by omega, by unfold maxLen; omega, fun j hj => by omega⟩, Drew.refl _⟩
  · by_cases h6 : 6 ≤ c
    · have hc : cls c = [] := by unfold cls; repeat' (first | rfl | rw [if_neg (by omega)])
      have H := Lib.hid hc
      clear hc
      go_enter Tryd.func32, Tryd.ntmps32
      go_wp2
      go_ret
      exact ⟨none, 0, 0, rfl, by rw [H.out]; exact ⟨rfl, by omega, by unfold maxLen; omega, fun j hj => by omega⟩, Drew.refl _⟩
    · obtain ⟨m, rfl⟩ : ∃ m : Nat, c = m := ⟨c.toNat, by omega⟩
      obtain ⟨ao, n, cap, hcell, hp⟩ := hT.2 m (by omega)
      have hm : (m : Int) < 6 := by omega
      have hm' : m < 6 := by omega
      clear h6 h0
      go_enter Tryd.func32, Tryd.ntmps32
      go_wp2
      go_ret
      exact ⟨ao, n, cap, rfl, hp, Drew.refl _⟩
-- gimlet/chars.Is
theorem is_calls (w : World) (c r : Int) (hT : Tab 2 w) : Calls Tryd.prog 27 #[.int .i64 c, .int .i32 r] w fun e w' => e = .returned (.bool (isF (cls c) r)) ∧ Below w.heap.size w w' := by
  go_enter Tryd.func27, Tryd.ntmps27
  go_wp2_with fail
  refine (of_calls w c hT).mono ?_
  rintro e w1 ⟨ao, n, cap, rfl, hp, hd⟩
  have hn := Lib.hid hp.len
  have h18 : n ≤ 18 := hp.len ▸ cls_length c
  have hb1 := hd.below w.heap.size
  go_wp2
  go_loopw [10] (fun i wr => ∃ q : Nat, q ≤ n ∧ i = .int .i64 q ∧ Hid (isF ((cls c).drop q) r = isF (cls c) r) ∧ Below w.heap.size w wr ∧ Prs wr .i32 ao n cap (cls c)) (fun i _ => n - (intOf i).toNat)
  case atStart => exact ⟨0, by omega, rfl, Lib.hid rfl, hb1, hp⟩
  case round =>
    obtain ⟨q, hq, rfl, H, hb, hp⟩ := hrel
    by_cases hqn : q < n
    · obtain ⟨a, rfl, ha, h1, h2⟩ := hp.cell q hqn
      go_wp2
      · go_ret
        exact ⟨by
          have := isF_step r (k := q) (l := cls c) (by rw [hn.out]; exact hqn)
          rw [← H.out, this, if_pos (by assumption)]; rfl, hb.alloc hb.size _⟩
      · go_roundw
        case rel => exact ⟨q + 1, by omega, by go_num, Lib.hid (by
          have := isF_step r (k := q) (l := cls c) (by rw [hn.out]; exact hqn)
          rw [← H.out, this, if_neg (by omega)]), hb.alloc hb.size _, hp.below ((Below.refl _ _).alloc (Nat.le_refl _) _)⟩
        case measure => simp [intOf]; omega
    · obtain rfl : q = n := by omega
      go_wp2
      go_ret
      exact ⟨by
        rw [← H.out, List.drop_of_length_le (by rw [hn.out]; exact Nat.le_refl _)]; rfl, hb⟩
end Go.Proofs.YtghepjbfhjkinaaDoor
