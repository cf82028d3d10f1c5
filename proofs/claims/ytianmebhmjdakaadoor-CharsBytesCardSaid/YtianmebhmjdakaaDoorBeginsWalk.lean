/- The walks of chars.Begins, gimletref02.Begins, gimletlaw02.CharsBegins. -/
import Derived.Test.YtianmebhmjdakaaDoorReachWalk
import Derived.Test.YtianmebhmjdakaaDoorReadWalk
namespace Gim
open Go
/-- does a range of the class meet what lies from a to b? -/
def hits : List (Int × Int) → Int → Int → Bool
  | [], _, _ => false
  | (x, y) :: t, a, b => if x ≤ b ∧ a ≤ y ∧ a ≤ b then true else hits t a b
theorem hits_step {l : List (Int × Int)} {k : Nat} (a b : Int) (h : k < l.length) : hits (l.drop k) a b = if lo l k ≤ b ∧ a ≤ hi l k ∧ a ≤ b then true else hits (l.drop (k + 1)) a b := by rw [drop_lohi h]; rfl
theorem hits_none : ∀ (l : List (Int × Int)) {a b : Int}, b < a → hits l a b = false
  | [], _, _, _ => rfl
  | (x, y) :: t, a, b, h => by rw [hits, if_neg (by omega), hits_none t h]
/-- is there a character of the class whose bytes begin so? -/
def begB (c : Int) (xs : List Int) : Bool := hits (cls c) (spanL xs).1 (spanL xs).2
end Gim
namespace Go.Proofs.YtianmebhmjdakaaDoor
open Go.RowKit Gim
-- gimlet/gimletref02.Begins
set_option maxHeartbeats 1000000 in
theorem refBegins_calls (c : Int) (w : World) (ao : Option Addr) (n0 cap : Nat) (xs : List Int) (h : Rd w .u8 ao n0 cap xs) (hby : ∀ j, j < n0 → 0 ≤ gt xs j ∧ gt xs j ≤ 255) :
    Calls Tryd.prog 25 #[.int .i64 c, .slice ao n0 cap] w fun e w' => e = .returned (.bool (begB c xs)) ∧ Below w.heap.size w w' := by
  go_enter Tryd.func25, Tryd.ntmps25
  go_wp2_with fail
  refine (span_calls _ _ _ _ xs h hby).mono ?_
  rintro e w0 ⟨rfl, hb0⟩
  have HX := Lib.hid (rfl : begB c xs = hits (cls c) (spanL xs).1 (spanL xs).2)
  obtain ⟨f, hf⟩ : ∃ f, f = spanL xs := ⟨_, rfl⟩
  have HB := Lib.hid (show begB c xs = hits (cls c) f.1 f.2 by rw [begB, ← hf])
  rw [← hf]
  clear hf HX
  obtain ⟨u, v⟩ := f
  go_wp2_with fail
  refine (ranges_calls _ c).mono ?_
  rintro e w1 ⟨ao, n, rfl, hp, hb1⟩
  have hb2 := hb0.trans (hb1.mono hb0.size)
  clear hb0 hb1
  have hn := Lib.hid hp.len
  have h18 : n ≤ 18 := hp.len ▸ cls_length c
  go_wp2
  go_loopw [17] (fun i wr => ∃ q : Nat, q ≤ n ∧ i = .int .i64 q ∧ Hid (hits ((cls c).drop q) u v = begB c xs) ∧ Below w.heap.size w wr ∧ Prs wr .i64 ao n n (cls c)) (fun i _ => n - (intOf i).toNat)
  case atStart => exact ⟨0, by omega, rfl, Lib.hid HB.out.symm, hb2, hp⟩
  case round =>
    obtain ⟨q, hq, rfl, H, hb, hp⟩ := hrel
    by_cases hqn : q < n
    · obtain ⟨a, rfl, ha, h1, h2⟩ := hp.cell q hqn
      obtain ⟨g1, g2, g3⟩ := lohi_range (c := c) (k := q) (by rw [hn.out]; exact hqn)
      have st := Lib.hid (hits_step u v (k := q) (l := cls c) (by rw [hn.out]; exact hqn))
      by_cases hT : lo (cls c) q ≤ v ∧ u ≤ hi (cls c) q ∧ u ≤ v
      · have HF := Lib.hid (H.out.symm.trans (st.out.trans (if_pos hT)))
        clear st H
        go_wp2
        all_goals go_ret
        all_goals exact ⟨by rw [HF.out]; rfl, hb.alloc hb.size _⟩
      · have HF := Lib.hid ((st.out.trans (if_neg hT)).symm.trans H.out)
        clear st H
        go_wp2
        all_goals go_roundw
        all_goals try
          case rel => exact ⟨q + 1, by omega, by go_num, HF, hb.alloc hb.size _, hp.below ((Below.refl _ _).alloc (Nat.le_refl _) _)⟩
        all_goals try
          case measure => simp [intOf]; omega
    · obtain rfl : q = n := by omega
      have HF := Lib.hid (H.out.symm.trans (by rw [List.drop_of_length_le (by rw [hn.out]; exact Nat.le_refl _)]; rfl) : begB c xs = false)
      clear H
      go_wp2
      go_ret
      exact ⟨by rw [HF.out]; rfl, hb⟩
-- gimlet/chars.Begins
set_option maxHeartbeats 1000000 in
theorem begins_calls (c : Int) (w : World) (ao : Option Addr) (n0 cap : Nat) (xs : List Int) (h : Rd w .u8 ao n0 cap xs) (hby : ∀ j, j < n0 → 0 ≤ gt xs j ∧ gt xs j ≤ 255) (hT : Tab 2 w) :
    Calls Tryd.prog 24 #[.int .i64 c, .slice ao n0 cap] w fun e w' => e = .returned (.bool (begB c xs)) ∧ Below w.heap.size w w' := by
  go_enter Tryd.func24, Tryd.ntmps24
  go_wp2_with fail
  refine (reach_calls _ _ _ _ xs h hby).mono ?_
  rintro e w0 ⟨u, v, ok, rfl, hM, hb0⟩
  have hT0 := hT.below hb0
  rcases hM with ⟨rfl, hM⟩ | ⟨rfl, hM⟩
  case inr =>
    have HF := Lib.hid (show begB c xs = false by rw [begB, hits_none _ hM])
    clear hM
    go_wp2
    go_ret
    exact ⟨by rw [HF.out]; rfl, hb0⟩
  have HB := Lib.hid (show begB c xs = hits (cls c) u v by rw [begB, hM])
  clear hM
  go_wp2_with fail
  refine (of_calls _ c hT0).mono ?_
  rintro e w1 ⟨ao, n, cap, rfl, hp, hd⟩
  have hn := Lib.hid hp.len
  have h18 : n ≤ 18 := hp.len ▸ cls_length c
  have hb2 := hb0.trans (hd.below w.heap.size)
  clear hb0 hd
  go_wp2
  go_loopw [21] (fun i wr => ∃ q : Nat, q ≤ n ∧ i = .int .i64 q ∧ Hid (hits ((cls c).drop q) u v = begB c xs) ∧ Below w.heap.size w wr ∧ Prs wr .i32 ao n cap (cls c)) (fun i _ => n - (intOf i).toNat)
  case atStart => exact ⟨0, by omega, rfl, Lib.hid HB.out.symm, hb2, hp⟩
  case round =>
    obtain ⟨q, hq, rfl, H, hb, hp⟩ := hrel
    by_cases hqn : q < n
    · obtain ⟨a, rfl, ha, h1, h2⟩ := hp.cell q hqn
      obtain ⟨g1, g2, g3⟩ := lohi_range (c := c) (k := q) (by rw [hn.out]; exact hqn)
      have st := Lib.hid (hits_step u v (k := q) (l := cls c) (by rw [hn.out]; exact hqn))
      by_cases hT : lo (cls c) q ≤ v ∧ u ≤ hi (cls c) q ∧ u ≤ v
      · have HF := Lib.hid (H.out.symm.trans (st.out.trans (if_pos hT)))
        clear st H
        go_wp2
        all_goals go_ret
        all_goals exact ⟨by rw [HF.out]; rfl, hb.alloc hb.size _⟩
      · have HF := Lib.hid ((st.out.trans (if_neg hT)).symm.trans H.out)
        clear st H
        go_wp2
        all_goals go_roundw
        all_goals try
          case rel => exact ⟨q + 1, by omega, by go_num, HF, hb.alloc hb.size _, hp.below ((Below.refl _ _).alloc (Nat.le_refl _) _)⟩
        all_goals try
          case measure => simp [intOf]; omega
    · obtain rfl : q = n := by omega
      have HF := Lib.hid (H.out.symm.trans (by rw [List.drop_of_length_le (by rw [hn.out]; exact Nat.le_refl _)]; rfl) : begB c xs = false)
      clear H
      go_wp2
      go_ret
      exact ⟨by rw [HF.out]; rfl, hb⟩
end Go.Proofs.YtianmebhmjdakaaDoor
