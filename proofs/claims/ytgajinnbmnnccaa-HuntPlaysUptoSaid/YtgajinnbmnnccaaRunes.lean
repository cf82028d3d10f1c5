/- The walks of words.runes, gimletref03.Runes, words.Length: each goes through a string by range. -/
import Derived.Test.YtgajinnbmnnccaaBase
namespace Go.Proofs.Ytgajinnbmnnccaa
open Go.RowKit Gim

theorem info_rune : (Try.prog.info? 21).map (fun i => (i.zero, i.size, i.bytes)) = some (some (.int .i32 0), 1, 4) := by kernel_rfl

set_option maxHeartbeats 400000 in
theorem wordsRunes (s : ByteArray) (w : World) (hs : s.size ≤ 1099511627776) :
    Calls Try.prog 38 #[.string s] w (GivesRow w 21 .i32 (rs s)) := by
  obtain ⟨i0, hi, hz0, hz1, hz2⟩ := info_parts info_rune
  go_enter Try.func38, Try.ntmps38
  go_wp2_with (at_make; refine wpList_make_own _ rfl _ _ 41 rfl w.heap.size 21 i0 (.int .i32 0) 1 Try.underlying41 hi hz0 hz1 _ _ _ s.size rfl rfl (by omega) (by rw [hz2]; omega) (by unfold maxLen; omega) (Nat.le_refl _) ?_; intro w1 hown1 hgrow1)
  have hb1 : Below w.heap.size w w1 := (Below.refl _ _).grown hgrow1 (Nat.le_refl _) (fun k hk => by cases hk)
  have hz := hb1.size
  go_loopw [3] (fun v wr => ∃ (pos : Nat) (done : List Int), wr.heap[w1.heap.size]? = some (.stringIter s pos) ∧ Row wr w.heap.size 21 .i32 v done ∧ Below w.heap.size w wr ∧ Hid (done ++ rsAt s pos = rs s) ∧ done.length ≤ pos) (fun _ wr => s.size - wr.iterPos w1.heap.size)
  case atStart => exact ⟨0, [], World.iter_heap w1 s 0, hown1.alloc _, hb1.alloc hz _, rfl, by simp⟩
  case round =>
    obtain ⟨pos, done, hit, hown, hbw, HS, hlen⟩ := hrel
    have hpos0 := iterPos_of hit
    by_cases hp : pos < s.size
    · obtain ⟨W1, hnx, hw1⟩ := next_some (P := Try.prog) hit hp
      have hwd := Lib.decode_width_pos s pos hp
      have hown2 := hw1.owns _ _ _ _ _ _ hown
      have hbw2 := hw1.below _ _ hbw hz
      have hz2' := hbw2.size
      clear hit hown hbw
      go_wp2_with (at_builtin; refine wpList_append_own _ rfl _ _ 41 rfl w.heap.size 21 i0 (.int .i32 0) 1 4 Try.underlying41 hi hz0 hz1 hz2 rfl (by decide) _ _ _ rfl (hown2.alloc _) ⟨W1.heap.size, 0, none⟩ 1 1 [.int .i32 ((Utf8.decode s pos).1 : Int)] rfl rfl (one_new _ _ _) (fun x hx => by simp at hx; rcases hx with rfl; rfl) (by unfold maxLen; omega) (by omega) (by simp; omega) ?_; intro v' w3 hown' hgrow3 hnil3)
      have hit3 := iter_grown (hown2.alloc _) hgrow3 ((Below.heap_alloc _ _ _ (lt_of_block hw1.it)).trans hw1.it)
      have hbw3 : Below w.heap.size w w3 := (hbw2.alloc hz2' _).grown hgrow3 (by simp; omega) (fun j hj => (hown2.lt _ hj).1)
      go_roundw
      case rel => exact ⟨_, done ++ [_], hit3, by unfold Row; simpa using hown', hbw3, by have := HS.out; rw [rsAt_next hp] at this; simpa [Hid] using this, by simp; omega⟩
      case measure => rw [iterPos_of hit3, hpos0]; omega
    · have hnx : ∀ ty, (Instr.next (.pointer (some ⟨w1.heap.size, 0, none⟩)) true ty).run Try.prog wr = _ := fun ty => Lib.run_next_end_at wr w1.heap.size s pos ty hit hp
      have e : done = rs s := by have := HS.out; rw [rsAt_end hp] at this; simpa using this
      subst e
      go_wp2
      go_ret
      exact ⟨_, rfl, hown, hbw⟩

set_option maxHeartbeats 400000 in
theorem wordsLength (s : ByteArray) (w : World) (hs : s.size ≤ 1099511627776) :
    Calls Try.prog 22 #[.string s] w fun e w' => e = .returned (.int .i64 (rs s).length) ∧ Below w.heap.size w w' := by
  go_enter Try.func22, Try.ntmps22
  go_wp2
  go_loopw [3] (fun v wr => ∃ (pos n : Nat), v = .int .i64 n ∧ wr.heap[w.heap.size]? = some (.stringIter s pos) ∧ Below w.heap.size w wr ∧ Hid (n + (rsAt s pos).length = (rs s).length) ∧ n ≤ pos) (fun _ wr => s.size - wr.iterPos w.heap.size)
  case atStart => exact ⟨0, 0, rfl, World.iter_heap w s 0, (Below.refl _ _).alloc (Nat.le_refl _) _, by simp [Hid, rs], by simp⟩
  case round =>
    obtain ⟨pos, n, rfl, hit, hbw, HS, hlen⟩ := hrel
    have hpos0 := iterPos_of hit
    by_cases hp : pos < s.size
    · obtain ⟨W1, hnx, hw1⟩ := next_some (P := Try.prog) hit hp
      have hwd := Lib.decode_width_pos s pos hp
      have hbw2 := hw1.below _ _ hbw (Nat.le_refl _)
      clear hit hbw
      go_wp2
      go_roundw
      case rel => exact ⟨_, n + 1, by go_num, hw1.it, hbw2, by have := HS.out; rw [rsAt_next hp] at this; simp at this; simp only [Hid]; omega, by omega⟩
      case measure => rw [hw1.at_, hpos0]; omega
    · have hnx : ∀ ty, (Instr.next (.pointer (some ⟨w.heap.size, 0, none⟩)) true ty).run Try.prog wr = _ := fun ty => Lib.run_next_end_at wr w.heap.size s pos ty hit hp
      have e : n = (rs s).length := by have := HS.out; rw [rsAt_end hp] at this; simpa using this
      subst e
      go_wp2
      go_ret
      exact ⟨rfl, hbw⟩
end Go.Proofs.Ytgajinnbmnnccaa
