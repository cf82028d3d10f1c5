/- The walks of chars.Name, chars.Texts and gimletlaw02.fixed. -/
import Derived.Test.YtghepjbfhjkinaaDoorValid
import Derived.Test.YtghepjbfhjkinaaDoorNameLaw
namespace Go.Proofs.YtghepjbfhjkinaaDoor
open Go.RowKit Gim
theorem good_next {c d : Int} {s : ByteArray} {p : Nat} (h : p < s.size) : good c d (rsAt s p) = (isF (cls c) ((Utf8.decode s p).1 : Int) && good d d (rsAt s (p + (Utf8.decode s p).2))) := by rw [rsAt_next h]; rfl
theorem good_end {c d : Int} {s : ByteArray} {p : Nat} (h : ¬ p < s.size) : good c d (rsAt s p) = true := by rw [rsAt_end h]; rfl

theorem size_pos {s : ByteArray} (h : ¬ s = ⟨#[]⟩) : 0 < s.size := by
  rcases Nat.eq_zero_or_pos s.size with h0 | h0
  · exact absurd (ByteArray.ext (Array.eq_empty_of_size_eq_zero h0)) h
  · exact h0

theorem list_ne {s : ByteArray} (h : ¬ s = ⟨#[]⟩) : ¬ s.toList = [] := by
  rw [ByteArray.toList_eq]
  intro e
  exact h (by cases s; rename_i d; cases d; simp at e; simp [e])

-- gimlet/chars.Name
theorem name_calls (s : ByteArray) (w : World) (hs : s.size ≤ 9223372036854775807) (hT : Laid w) :
    Calls Tryd.prog 22 #[.string s] w fun e w' => e = .returned (.bool (nameB s)) ∧ Below w.heap.size w w' := by
  go_enter Tryd.func22, Tryd.ntmps22
  go_wp2
  go_loopw [3] (fun v wr => ∃ (pos : Nat) (c : Int), v = .int .i64 c ∧ wr.heap[w.heap.size]? = some (.stringIter s pos) ∧ Below w.heap.size w wr ∧ Hid (good c 3 (rsAt s pos) = good 2 3 (rs s))) (fun _ wr => s.size - wr.iterPos w.heap.size)
  case atStart => exact ⟨0, 2, rfl, World.iter_heap w s 0, (Below.refl _ _).alloc (Nat.le_refl _) _, rfl⟩
  case round =>
    obtain ⟨pos, c, rfl, hit, hb, HG⟩ := hrel
    have hpos0 := iterPos_of hit
    by_cases hp : pos < s.size
    · obtain ⟨W1, hnx, hw1⟩ := next_some (P := Tryd.prog) hit hp
      have hwd := Lib.decode_width_pos s pos hp
      have HN := Lib.hid (HG.out.symm.trans (good_next hp))
      obtain ⟨r, hr⟩ : ∃ r : Int, r = ((Utf8.decode s pos).1 : Int) := ⟨_, rfl⟩
      rw [← hr] at hnx HN
      have hb1 := hw1.below _ _ hb (Nat.le_refl _)
      have hit2 := hw1.it
      have hT1 := hT.below hb1
      have hks := (Array.getElem?_eq_some_iff.1 hit2).1
      clear hr hit hb HG
      go_wp2_with fail
      refine (is_calls _ c r hT1.tab).mono ?_
      rintro e w2 ⟨rfl, hb2⟩
      have hit3 := (hb2.block _ hks).trans hit2
      have hb3 := hb1.trans (hb2.mono hb1.size)
      clear hit2 hb1 hb2
      cases hi : isF (cls c) r
      · have HF := Lib.hid (HN.out.trans (by rw [hi]; rfl) : good 2 3 (rs s) = false)
        go_wp2
        go_ret
        exact ⟨by rw [nameB, HF.out]; rfl, hb3⟩
      · have HF := Lib.hid (HN.out.symm.trans rfl |>.symm |>.trans (by rw [hi, Bool.true_and]) : good 2 3 (rs s) = good 3 3 (rsAt s (pos + (Utf8.decode s pos).2)))
        go_wp2
        go_roundw
        case rel => exact ⟨_, 3, rfl, hit3, hb3, HF.out.symm⟩
        case measure => rw [iterPos_of hit3, hpos0]; omega
    · have hnx : ∀ ty, (Instr.next (.pointer (some ⟨w.heap.size, 0, none⟩)) true ty).run Tryd.prog wr = _ := fun ty => Lib.run_next_end_at wr w.heap.size s pos ty hit hp
      have HT := Lib.hid (HG.out.symm.trans (good_end hp))
      have hT1 := hT.below hb
      by_cases h0 : s = ⟨#[]⟩
      · subst h0
        go_wp2
        go_ret
        exact ⟨by rw [nameB, HT.out]; rfl, hb⟩
      · have h1 : ¬ s.toList = [] := list_ne h0
        have he : s.toList.isEmpty = false := by simp [h1]
        have h3 := Lib.hid (size_pos h0)
        go_wp2_with fail
        refine (valid_calls s _ hs hT1).mono ?_
        rintro e w2 ⟨rfl, hb2⟩
        go_wp2
        go_ret
        exact ⟨by rw [nameB, HT.out, decide_eq_true h3.out]; rfl, hb.trans (hb2.mono hb.size)⟩

end Go.Proofs.YtghepjbfhjkinaaDoor
