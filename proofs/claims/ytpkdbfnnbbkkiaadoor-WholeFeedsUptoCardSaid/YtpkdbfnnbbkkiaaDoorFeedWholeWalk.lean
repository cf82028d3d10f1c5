/- The walk of gimlettop.whole. -/
import Derived.Test.YtpkdbfnnbbkkiaaDoorFeedWholeLaw
import Derived.Test.YtpkdbfnnbbkkiaaDoorConvR
namespace Gim
open Go Go.Lib
def WI (xs : List Int) (p last : Nat) (was : Int) (wrg : Bool) : Prop :=
  (p = 0 ∧ last = 0 ∧ was = 0 ∧ wrg = false) ∨ (last < xs.length ∧ was = ((decB (xs.drop last)).1 : Int) ∧ p = last + (decB (xs.drop last)).2 ∧ (!wrg && nwAt xs last) = nwAt xs 0)
theorem wrong_at {xs : List Int} {last p : Nat} {was : Int} (h1 : was = ((decB (xs.drop last)).1 : Int)) (h2 : p = last + (decB (xs.drop last)).2) : wrongB xs last = (decide (was = 65533) && decide ((p : Int) - last = 1)) := by
  unfold wrongB
  rw [Bool.eq_iff_iff]
  simp only [decide_eq_true_eq, Bool.and_eq_true]
  omega
theorem WI.round {xs : List Int} {p last : Nat} {was : Int} {wrg : Bool} (h : WI xs p last was wrg) (hp : p < xs.length) :
    WI xs (p + (decB (xs.drop p)).2) p ((decB (xs.drop p)).1 : Int) (wrg || (decide (0 < (p : Int)) && (decide (was = 65533) && decide ((p : Int) - last = 1)))) := by
  refine .inr ⟨hp, rfl, rfl, ?_⟩
  rcases h with ⟨rfl, rfl, rfl, rfl⟩ | ⟨h1, h2, h3, h4⟩
  · simp
  · have hw := decB_width (xs := xs.drop last) (by rw [List.length_drop]; omega)
    rw [← h4, nwAt_next h1, ← h3, wrong_at h2 h3, decide_eq_true (show 0 < (p : Int) by omega)]
    cases wrg <;> cases decide (was = 65533) <;> cases decide ((p : Int) - last = 1) <;> simp
theorem WI.end {xs : List Int} {p last : Nat} {was : Int} {wrg : Bool} (h : WI xs p last was wrg) (hp : ¬ p < xs.length) : (!wrg && !(decide (0 < (xs.length : Int)) && (decide (was = 65533) && decide ((xs.length : Int) - last = 1)))) = nwAt xs 0 := by
  rcases h with ⟨rfl, rfl, rfl, rfl⟩ | ⟨h1, h2, h3, h4⟩
  · rw [nwAt_end hp]
    simp
  · have hl := decB_le (xs := xs.drop last) (by rw [List.length_drop]; omega)
    rw [List.length_drop] at hl
    have hpe : p = xs.length := by omega
    rw [← h4, nwAt_next h1, ← h3, nwAt_end hp, wrong_at h2 h3, hpe, decide_eq_true (show 0 < (xs.length : Int) by omega)]
    simp
end Gim
namespace Go.Proofs.YtpkdbfnnbbkkiaaDoor
open Go.RowKit Gim Go.Lib
set_option maxRecDepth 100000 in
set_option maxHeartbeats 4000000 in
theorem whole_calls (xs : List Int) (hby : ∀ x ∈ xs, 0 ≤ x ∧ x ≤ 255) (hn : xs.length ≤ 274877906944) (w : World) :
    Calls Tryd.prog 10 #[.string (strOfNums xs)] w fun e w' => e = .returned (.bool (nwAt xs 0)) ∧ Below w.heap.size w w' := by
  have hsz := strOfNums_size xs
  obtain ⟨s, hs⟩ : ∃ s, Hid (s = strOfNums xs) := ⟨_, rfl⟩
  rw [← hs.out] at hsz ⊢
  have HBY := Lib.hid hby
  have HSZ := Lib.hid hsz
  have hsn : s.size ≤ 274877906944 := by omega
  obtain ⟨ans, hans⟩ : ∃ ans, Hid (ans = nwAt xs 0) := ⟨_, rfl⟩
  rw [← hans.out]
  obtain ⟨K, hK⟩ : ∃ K, Hid (K = w.heap.size) := ⟨_, rfl⟩
  clear hsz hby
  go_enter Tryd.func10, Tryd.ntmps10
  go_wp2_with fail
  rw [← hK.out]
  go_loopw [3, 4, 5] (fun v3 v4 v5 wr => ∃ (p last : Nat) (was : Int) (wrg : Bool), v3 = .int .i64 last ∧ v4 = .bool wrg ∧ v5 = .int .i32 was ∧ wr.heap[K]? = some (.stringIter s p) ∧ Below K w wr ∧ last ≤ p ∧ last ≤ s.size ∧ Hid (WI xs p last was wrg)) (fun _ _ _ wr => s.size - wr.iterPos K)
  case atStart => exact ⟨0, 0, 0, false, rfl, rfl, rfl, by rw [hK.out]; exact World.iter_heap w s 0, by rw [hK.out]; exact (Below.refl _ _).alloc (Nat.le_refl _) _, Nat.le_refl _, Nat.zero_le _, Lib.hid (.inl ⟨rfl, rfl, rfl, rfl⟩)⟩
  case round =>
    obtain ⟨p, last, was, wrg, rfl, rfl, rfl, hit, hbw, hlp, hls, HW⟩ := hrel
    have hpos0 := iterPos_of hit
    by_cases hp : p < s.size
    · obtain ⟨W1, hnx, hw1⟩ := next_some (P := Tryd.prog) hit hp
      have hbw2 := hw1.below _ _ hbw (Nat.le_refl _)
      have hpx : p < xs.length := by rw [← HSZ.out]; exact hp
      have hdec : Utf8.decode s p = decB (xs.drop p) := by rw [hs.out]; exact dec_str HBY.out hpx
      have hwd := decB_width (xs := xs.drop p) (by rw [List.length_drop]; omega)
      have hW2 := HW.out.round hpx
      rw [hdec] at hnx hw1
      obtain ⟨r, wd⟩ := decB (xs.drop p)
      try simp only [] at hnx hw1 hW2 hwd
      have HW2 := Lib.hid hW2
      have HWD := Lib.hid hwd
      clear hit hbw hW2 hwd
      cases wrg
      · by_cases h0 : 0 < (p : Int)
        · by_cases h1 : was = 65533
          · rw [decide_eq_true h1] at HW2
            subst h1
            by_cases h2 : (p : Int) - last = 1
            · have h2b : ((p : Int) - last == 1) = true := by simp [h2]
              rw [decide_eq_true h0, decide_eq_true h2] at HW2
              clear h2
              go_wp2_with fail
              go_roundw
              case rel => exact ⟨_, p, _, true, rfl, rfl, rfl, hw1.it, hbw2, Nat.le_add_right _ _, Nat.le_of_lt hp, HW2⟩
              case measure => have := HWD.out; rw [hw1.at_, hpos0]; omega
            · have h2b : ((p : Int) - last == 1) = false := beq_eq_false_iff_ne.2 h2
              rw [decide_eq_true h0, decide_eq_false h2] at HW2
              clear h2
              go_wp2_with fail
              go_roundw
              case rel => exact ⟨_, p, _, false, rfl, rfl, rfl, hw1.it, hbw2, Nat.le_add_right _ _, Nat.le_of_lt hp, HW2⟩
              case measure => have := HWD.out; rw [hw1.at_, hpos0]; omega
          · have h1b : (was == 65533) = false := beq_eq_false_iff_ne.2 h1
            rw [decide_eq_true h0, decide_eq_false h1] at HW2
            go_wp2_with fail
            go_roundw
            case rel => exact ⟨_, p, _, false, rfl, rfl, rfl, hw1.it, hbw2, Nat.le_add_right _ _, Nat.le_of_lt hp, HW2⟩
            case measure => have := HWD.out; rw [hw1.at_, hpos0]; omega
        · rw [decide_eq_false h0] at HW2
          go_wp2_with fail
          go_roundw
          case rel => exact ⟨_, p, _, false, rfl, rfl, rfl, hw1.it, hbw2, Nat.le_add_right _ _, Nat.le_of_lt hp, HW2⟩
          case measure => have := HWD.out; rw [hw1.at_, hpos0]; omega
      · rw [Bool.true_or] at HW2
        go_wp2_with fail
        go_roundw
        case rel => exact ⟨_, p, _, true, rfl, rfl, rfl, hw1.it, hbw2, Nat.le_add_right _ _, Nat.le_of_lt hp, HW2⟩
        case measure => have := HWD.out; rw [hw1.at_, hpos0]; omega
    · have hnx : ∀ ty, (Instr.next (.pointer (some ⟨K, 0, none⟩)) true ty).run Tryd.prog wr = _ := fun ty => Lib.run_next_end_at wr K s p ty hit hp
      have hE := HW.out.end (by rw [← HSZ.out]; exact hp)
      rw [← hans.out, ← HSZ.out] at hE
      have hlast : last ≤ s.size ∨ True := .inr trivial
      clear hlast
      have hb' : Below w.heap.size w wr := by rw [← hK.out]; exact hbw
      cases wrg
      · by_cases h0 : 0 < (s.size : Int)
        · by_cases h1 : was = 65533
          · rw [decide_eq_true h1] at hE
            subst h1
            by_cases h2 : (s.size : Int) - last = 1
            · have h2b : ((s.size : Int) - last == 1) = true := by simp [h2]
              rw [decide_eq_true h0, decide_eq_true h2] at hE
              have HE := Lib.hid hE
              clear h2 hE
              go_wp2_with fail
              go_ret
              exact ⟨by rw [← HE.out]; rfl, hb'⟩
            · have h2b : ((s.size : Int) - last == 1) = false := beq_eq_false_iff_ne.2 h2
              rw [decide_eq_true h0, decide_eq_false h2] at hE
              have HE := Lib.hid hE
              clear h2 hE
              go_wp2_with fail
              go_ret
              exact ⟨by rw [← HE.out]; rfl, hb'⟩
          · have h1b : (was == 65533) = false := beq_eq_false_iff_ne.2 h1
            rw [decide_eq_true h0, decide_eq_false h1] at hE
            have HE := Lib.hid hE
            clear hE
            go_wp2_with fail
            go_ret
            exact ⟨by rw [← HE.out]; rfl, hb'⟩
        · rw [decide_eq_false h0] at hE
          have HE := Lib.hid hE
          clear hE
          go_wp2_with fail
          go_ret
          exact ⟨by rw [← HE.out]; rfl, hb'⟩
      · have HE := Lib.hid hE
        clear hE
        go_wp2_with fail
        go_ret
        exact ⟨by rw [← HE.out]; rfl, hb'⟩
end Go.Proofs.YtpkdbfnnbbkkiaaDoor
