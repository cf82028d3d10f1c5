/- The document's classes: gimletref02.Ranges, Is, Next, Count. -/
import Derived.Test.YtianmebhmjdakaaDoorCtab
namespace Gim
open Go Go.RowKit
/-- the cells of a row of pairs -/
def flat (k : IntKind) : List (Int × Int) → List Value
  | [] => []
  | (x, y) :: t => .int k x :: .int k y :: flat k t
theorem flat_at (k : IntKind) : ∀ (ps : List (Int × Int)) (j : Nat), j < ps.length → (flat k ps)[j * 2]? = some (.int k (lo ps j)) ∧ (flat k ps)[j * 2 + 1]? = some (.int k (hi ps j))
  | (x, y) :: t, 0, _ => by simp [flat, lo, hi]
  | (x, y) :: t, j + 1, h => by
    have e : (j + 1) * 2 = j * 2 + 2 := by omega
    have := flat_at k t j (by simpa using h)
    simpa [flat, lo, hi, e] using this
theorem prs_of_cells {w : World} {k : IntKind} {g : Nat} {cs : Array Value} {t : TypeId} {fr : Nat × Nat} {n : Nat} {ps : List (Int × Int)} (hg : w.heap[g]? = some (.cells cs t fr)) (hc : cs.toList = flat k ps) (hn : ps.length = n) (hm : n ≤ 18) :
    Prs w k (some ⟨g, 0, none⟩) n n ps :=
  ⟨hn, Nat.le_refl _, by unfold maxLen; omega, fun j hj => ⟨_, rfl, (Array.getElem?_eq_some_iff.1 hg).1, by
    have := (flat_at k ps j (by omega)).1
    rw [← hc] at this
    simpa [World.cell?, hg, Addr.add_lit] using this, by
    have := (flat_at k ps j (by omega)).2
    rw [← hc] at this
    simpa [World.cell?, hg, Addr.add_lit] using this⟩⟩
end Gim
namespace Go.Proofs.YtianmebhmjdakaaDoor
open Go.RowKit Gim
-- gimlet/gimletref02.Ranges
set_option maxHeartbeats 4000000 in
theorem ranges_calls0 (w : World) : Calls Tryd.prog 30 #[.int .i64 0] w fun e w' => ∃ ao n, e = .returned (.slice ao n n) ∧ Prs w' .i64 ao n n (cls 0) ∧ Below w.heap.size w w' := by
  go_enter Tryd.func30, Tryd.ntmps30
  go_wp2
  go_ret
  exact ⟨_, _, rfl, prs_of_cells (heap_alloc_new _ _) rfl rfl (by omega), (Below.refl _ _).alloc (Nat.le_refl _) _⟩
set_option maxHeartbeats 4000000 in
theorem ranges_calls1 (w : World) : Calls Tryd.prog 30 #[.int .i64 1] w fun e w' => ∃ ao n, e = .returned (.slice ao n n) ∧ Prs w' .i64 ao n n (cls 1) ∧ Below w.heap.size w w' := by
  go_enter Tryd.func30, Tryd.ntmps30
  go_wp2
  go_ret
  exact ⟨_, _, rfl, prs_of_cells (heap_alloc_new _ _) rfl rfl (by omega), (Below.refl _ _).alloc (Nat.le_refl _) _⟩
set_option maxHeartbeats 4000000 in
theorem ranges_calls2 (w : World) : Calls Tryd.prog 30 #[.int .i64 2] w fun e w' => ∃ ao n, e = .returned (.slice ao n n) ∧ Prs w' .i64 ao n n (cls 2) ∧ Below w.heap.size w w' := by
  go_enter Tryd.func30, Tryd.ntmps30
  go_wp2
  go_ret
  exact ⟨_, _, rfl, prs_of_cells (heap_alloc_new _ _) rfl rfl (by omega), (Below.refl _ _).alloc (Nat.le_refl _) _⟩
set_option maxHeartbeats 4000000 in
theorem ranges_calls3 (w : World) : Calls Tryd.prog 30 #[.int .i64 3] w fun e w' => ∃ ao n, e = .returned (.slice ao n n) ∧ Prs w' .i64 ao n n (cls 3) ∧ Below w.heap.size w w' := by
  go_enter Tryd.func30, Tryd.ntmps30
  go_wp2
  go_ret
  exact ⟨_, _, rfl, prs_of_cells (heap_alloc_new _ _) rfl rfl (by omega), (Below.refl _ _).alloc (Nat.le_refl _) _⟩
set_option maxHeartbeats 4000000 in
theorem ranges_calls4 (w : World) : Calls Tryd.prog 30 #[.int .i64 4] w fun e w' => ∃ ao n, e = .returned (.slice ao n n) ∧ Prs w' .i64 ao n n (cls 4) ∧ Below w.heap.size w w' := by
  go_enter Tryd.func30, Tryd.ntmps30
  go_wp2
  go_ret
  exact ⟨_, _, rfl, prs_of_cells (heap_alloc_new _ _) rfl rfl (by omega), (Below.refl _ _).alloc (Nat.le_refl _) _⟩
set_option maxHeartbeats 4000000 in
theorem ranges_calls5 (w : World) : Calls Tryd.prog 30 #[.int .i64 5] w fun e w' => ∃ ao n, e = .returned (.slice ao n n) ∧ Prs w' .i64 ao n n (cls 5) ∧ Below w.heap.size w w' := by
  go_enter Tryd.func30, Tryd.ntmps30
  go_wp2
  go_ret
  exact ⟨_, _, rfl, prs_of_cells (heap_alloc_new _ _) rfl rfl (by omega), (Below.refl _ _).alloc (Nat.le_refl _) _⟩
theorem ranges_calls (w : World) (c : Int) : Calls Tryd.prog 30 #[.int .i64 c] w fun e w' => ∃ ao n, e = .returned (.slice ao n n) ∧ Prs w' .i64 ao n n (cls c) ∧ Below w.heap.size w w' := by
  by_cases h0 : c = 0
  · subst h0
    exact ranges_calls0 w
  by_cases h1 : c = 1
  · subst h1
    exact ranges_calls1 w
  by_cases h2 : c = 2
  · subst h2
    exact ranges_calls2 w
  by_cases h3 : c = 3
  · subst h3
    exact ranges_calls3 w
  by_cases h4 : c = 4
  · subst h4
    exact ranges_calls4 w
  by_cases h5 : c = 5
  · subst h5
    exact ranges_calls5 w
  have hc : cls c = [] := by unfold cls; repeat' (first | rfl | rw [if_neg (by assumption)])
  have H := Lib.hid hc
  clear hc
  go_enter Tryd.func30, Tryd.ntmps30
  go_wp2
  go_ret
  exact ⟨none, 0, rfl, by rw [H.out]; exact ⟨rfl, by omega, by unfold maxLen; omega, fun j hj => by omega⟩, Below.refl _ _⟩
-- gimlet/gimletref02.Is
theorem refIs_calls (w : World) (c r : Int) : Calls Tryd.prog 17 #[.int .i64 c, .int .i64 r] w fun e w' => e = .returned (.bool (isR (cls c) r)) ∧ Below w.heap.size w w' := by
  go_enter Tryd.func17, Tryd.ntmps17
  go_wp2_with fail
  refine (ranges_calls w c).mono ?_
  rintro e w1 ⟨ao, n, rfl, hp, hb1⟩
  have hn := Lib.hid hp.len
  have h18 : n ≤ 18 := hp.len ▸ cls_length c
  go_wp2
  go_loopw [10] (fun i wr => ∃ q : Nat, q ≤ n ∧ i = .int .i64 q ∧ Hid (isR ((cls c).drop q) r = isR (cls c) r) ∧ Below w.heap.size w wr ∧ Prs wr .i64 ao n n (cls c)) (fun i _ => n - (intOf i).toNat)
  case atStart => exact ⟨0, by omega, rfl, Lib.hid rfl, hb1, hp⟩
  case round =>
    obtain ⟨q, hq, rfl, H, hb, hp⟩ := hrel
    by_cases hqn : q < n
    · obtain ⟨a, rfl, ha, h1, h2⟩ := hp.cell q hqn
      obtain ⟨g1, g2, g3⟩ := lohi_range (c := c) (k := q) (by rw [hn.out]; exact hqn)
      have st := Lib.hid (isR_step r (k := q) (l := cls c) (by rw [hn.out]; exact hqn))
      by_cases hx : lo (cls c) q ≤ r
      · by_cases hy : r ≤ hi (cls c) q
        · have hxy := Lib.hid (And.intro hx hy)
          go_wp2
          go_ret
          exact ⟨by rw [← H.out, st.out, if_pos hxy.out]; rfl, hb.alloc hb.size _⟩
        · have hxy := Lib.hid (show ¬ (lo (cls c) q ≤ r ∧ r ≤ hi (cls c) q) from fun h => hy h.2)
          go_wp2
          go_roundw
          case rel => exact ⟨q + 1, by omega, by go_num, Lib.hid (by
            rw [← H.out, st.out, if_neg hxy.out]), hb.alloc hb.size _, hp.below ((Below.refl _ _).alloc (Nat.le_refl _) _)⟩
          case measure => simp [intOf]; omega
      · have hxy := Lib.hid (show ¬ (lo (cls c) q ≤ r ∧ r ≤ hi (cls c) q) from fun h => hx h.1)
        go_wp2
        go_roundw
        case rel => exact ⟨q + 1, by omega, by go_num, Lib.hid (by
          rw [← H.out, st.out, if_neg hxy.out]), hb.alloc hb.size _, hp.below ((Below.refl _ _).alloc (Nat.le_refl _) _)⟩
        case measure => simp [intOf]; omega
    · obtain rfl : q = n := by omega
      go_wp2
      go_ret
      exact ⟨by rw [← H.out, List.drop_of_length_le (by rw [hn.out]; exact Nat.le_refl _)]; rfl, hb⟩
-- gimlet/gimletref02.Next
theorem refNext_calls (w : World) (c r : Int) (hr : -2147483648 ≤ r) : Calls Tryd.prog 19 #[.int .i64 c, .int .i64 r] w fun e w' => e = .returned (.tuple #[.int .i64 (nextC (cls c) r).1, .bool (nextC (cls c) r).2]) ∧ Below w.heap.size w w' := by
  go_enter Tryd.func19, Tryd.ntmps19
  go_wp2_with fail
  refine (ranges_calls w c).mono ?_
  rintro e w1 ⟨ao, n, rfl, hp, hb1⟩
  have hn := Lib.hid hp.len
  have h18 : n ≤ 18 := hp.len ▸ cls_length c
  go_wp2
  go_loopw [11] (fun i wr => ∃ q : Nat, q ≤ n ∧ i = .int .i64 q ∧ Hid (nextC ((cls c).drop q) r = nextC (cls c) r) ∧ Below w.heap.size w wr ∧ Prs wr .i64 ao n n (cls c)) (fun i _ => n - (intOf i).toNat)
  case atStart => exact ⟨0, by omega, rfl, Lib.hid rfl, hb1, hp⟩
  case round =>
    obtain ⟨q, hq, rfl, H, hb, hp⟩ := hrel
    by_cases hqn : q < n
    · obtain ⟨a, rfl, ha, h1, h2⟩ := hp.cell q hqn
      obtain ⟨g1, g2, g3⟩ := lohi_range (c := c) (k := q) (by rw [hn.out]; exact hqn)
      have st := Lib.hid (nextC_step r (k := q) (l := cls c) (by rw [hn.out]; exact hqn))
      by_cases hx : r < hi (cls c) q
      · by_cases hy : r < lo (cls c) q
        · have hy' : r + 1 ≤ lo (cls c) q := by omega
          have hxy := Lib.hid (And.intro hx hy)
          go_wp2
          go_ret2
          exact ⟨by rw [← H.out, st.out, if_pos hxy.out.1, if_pos hxy.out.2]; rfl, hb.alloc hb.size _⟩
        · have hy' : ¬ r + 1 ≤ lo (cls c) q := by omega
          have hxy := Lib.hid (And.intro hx hy)
          go_wp2
          go_ret2
          exact ⟨by rw [← H.out, st.out, if_pos hxy.out.1, if_neg (by have := hxy.out.2; omega)]; rfl, hb.alloc hb.size _⟩
      · have hxy := Lib.hid hx
        go_wp2
        go_roundw
        case rel => exact ⟨q + 1, by omega, by go_num, Lib.hid (by
          rw [← H.out, st.out, if_neg hxy.out]), hb.alloc hb.size _, hp.below ((Below.refl _ _).alloc (Nat.le_refl _) _)⟩
        case measure => simp [intOf]; omega
    · obtain rfl : q = n := by omega
      go_wp2
      go_ret2
      exact ⟨by rw [← H.out, List.drop_of_length_le (by rw [hn.out]; exact Nat.le_refl _)]; rfl, hb⟩
-- gimlet/gimletref02.Count
theorem refCount_calls (w : World) (c r : Int) (hr : -2147483648 ≤ r) : Calls Tryd.prog 21 #[.int .i64 c, .int .i64 r] w fun e w' => e = .returned (.int .i64 (countC (cls c) r)) ∧ Below w.heap.size w w' := by
  go_enter Tryd.func21, Tryd.ntmps21
  go_wp2_with fail
  refine (ranges_calls w c).mono ?_
  rintro e w1 ⟨ao, n, rfl, hp, hb1⟩
  have hn := Lib.hid hp.len
  have h18 : n ≤ 18 := hp.len ▸ cls_length c
  go_wp2
  go_loopw [5, 11] (fun x i wr => ∃ (q : Nat) (z : Int), q ≤ n ∧ i = .int .i64 q ∧ x = .int .i64 z ∧ 0 ≤ z ∧ z ≤ 2000000 * q ∧ Hid (z + countC ((cls c).drop q) r = countC (cls c) r) ∧ Below w.heap.size w wr ∧ Prs wr .i64 ao n n (cls c)) (fun _ i _ => n - (intOf i).toNat)
  case atStart => exact ⟨0, 0, by omega, rfl, rfl, by omega, by omega, Lib.hid (by simp), hb1, hp⟩
  case round =>
    obtain ⟨q, z, hq, rfl, rfl, hz0, hz1, H, hb, hp⟩ := hrel
    by_cases hqn : q < n
    · obtain ⟨a, rfl, ha, h1, h2⟩ := hp.cell q hqn
      obtain ⟨g1, g2, g3⟩ := lohi_range (c := c) (k := q) (by rw [hn.out]; exact hqn)
      have st := Lib.hid (countC_step r (k := q) (l := cls c) (by rw [hn.out]; exact hqn))
      by_cases hx : lo (cls c) q ≤ r
      · by_cases hy : r ≤ hi (cls c) q
        · have hxy := Lib.hid (And.intro hx hy)
          go_wp2
          all_goals go_roundw
          all_goals try
            case rel => exact ⟨q + 1, z + (r - lo (cls c) q + 1), by omega, by go_num, by go_num, by omega, by omega, Lib.hid (by
              rw [← H.out, st.out, if_pos hxy.out.1, if_pos hxy.out.2]; omega), hb.alloc hb.size _, hp.below ((Below.refl _ _).alloc (Nat.le_refl _) _)⟩
          all_goals try
            case measure => simp [intOf]; omega
        · have hxy := Lib.hid (And.intro hx hy)
          have hy' : hi (cls c) q ≤ r := by omega
          go_wp2
          all_goals go_roundw
          all_goals try
            case rel => exact ⟨q + 1, z + (hi (cls c) q - lo (cls c) q + 1), by omega, by go_num, by go_num, by omega, by omega, Lib.hid (by
              rw [← H.out, st.out, if_pos hxy.out.1, if_neg hxy.out.2]; omega), hb.alloc hb.size _, hp.below ((Below.refl _ _).alloc (Nat.le_refl _) _)⟩
          all_goals try
            case measure => simp [intOf]; omega
      · have hxy := Lib.hid hx
        go_wp2
        go_roundw
        case rel => exact ⟨q + 1, z, by omega, by go_num, rfl, by omega, by omega, Lib.hid (by
          rw [← H.out, st.out, if_neg hxy.out]; omega), hb.alloc hb.size _, hp.below ((Below.refl _ _).alloc (Nat.le_refl _) _)⟩
        case measure => simp [intOf]; omega
    · obtain rfl : q = n := by omega
      go_wp2
      go_ret
      exact ⟨by rw [← H.out, List.drop_of_length_le (by rw [hn.out]; exact Nat.le_refl _)]; simp [countC], hb⟩
end Go.Proofs.YtianmebhmjdakaaDoor
