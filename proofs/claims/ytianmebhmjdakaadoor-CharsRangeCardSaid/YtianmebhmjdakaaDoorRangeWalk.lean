/- The walk of gimletlaw02.CharsRange. -/
import Derived.Test.YtianmebhmjdakaaDoorNames
import Derived.Test.YtianmebhmjdakaaDoorRangeLaw
namespace Go.Proofs.YtianmebhmjdakaaDoor
open Go.RowKit Gim
set_option maxHeartbeats 40000000 in
theorem charsRange_walk (s : ByteArray) (w : World) (hs : s.size ≤ 140737488351232) (hT : Laid w) :
    Calls Tryd.prog 4 #[.string s] w fun e w' => e = .returned (.bool true) ∧ Below w.heap.size w w' := by
  have hs2 : s.size ≤ 9223372036854775807 := by omega
  obtain ⟨N0, hN0⟩ : ∃ N0 : Bool, N0 = (decide (0 < s.size) && good 2 3 (rs s)) := ⟨_, rfl⟩
  have HN0 := Lib.hid hN0
  clear hN0
  go_enter Tryd.func4, Tryd.ntmps4
  go_wp2_with fail
  refine (fixed_calls w hT).mono ?_
  rintro e w1 ⟨rfl, hb1⟩
  have hT1 := hT.below hb1
  have hsz := hb1.size
  obtain ⟨b0, hb0⟩ : ∃ b0 : Bool, b0 = !s.toList.isEmpty := ⟨_, rfl⟩
  have hb0' : s.toList.isEmpty = !b0 := by rw [hb0]; simp
  have HB := Lib.hid (show b0 = decide (0 < s.size) by
    rw [hb0]
    by_cases h0 : s = ⟨#[]⟩
    · subst h0; rw [ByteArray.toList_eq]; rfl
    · rw [decide_eq_true (size_pos h0)]; simp [list_ne h0])
  clear hb0
  go_wp2
  go_loopw [3, 4] (fun vn va wr => ∃ (pos : Nat) (nm al : Bool), vn = .bool nm ∧ va = .bool al ∧ wr.heap[w1.heap.size]? = some (.stringIter s pos) ∧ Below w.heap.size w wr ∧ pos ≤ s.size ∧
    Hid ((nm && good (if pos = 0 then 2 else 3) 3 (rsAt s pos)) = N0) ∧ Hid ((al && good 0 0 (rsAt s pos)) = good 0 0 (rs s)) ∧ Hid (val s pos = val s 0)) (fun _ _ wr => s.size - wr.iterPos w1.heap.size)
  case atStart => exact ⟨0, b0, true, rfl, rfl, World.iter_heap w1 s 0, hb1.alloc hsz _, by omega, by rw [HN0.out, HB.out]; rfl, rfl, rfl⟩
  case round =>
    obtain ⟨pos, nm, al, rfl, rfl, hit, hb, hps, HG, HA, HV⟩ := hrel
    have hpos0 := iterPos_of hit
    by_cases hp : pos < s.size
    · obtain ⟨W1, hnx, hw1⟩ := next_some (P := Tryd.prog) hit hp
      have hwd := Lib.decode_width_pos s pos hp
      have hle : pos + (Utf8.decode s pos).2 ≤ s.size := by
        have h1 := Lib.decodeL_le _ (drop_ne hp)
        rw [← dec_list] at h1
        have h2 := Lib.size_eq s
        simp at h1
        omega
      obtain ⟨r, hr⟩ : ∃ r : Int, r = ((Utf8.decode s pos).1 : Int) := ⟨_, rfl⟩
      have HR := Lib.hid hr
      rw [← hr] at hnx
      obtain ⟨d, hd⟩ : ∃ d : Nat, d = (Utf8.decode s pos).2 := ⟨_, rfl⟩
      rw [← hd] at hle hw1 hwd
      have HD := Lib.hid hd
      obtain ⟨c, hc⟩ : ∃ c : Int, c = if pos = 0 then 2 else 3 := ⟨_, rfl⟩
      have HG1 := Lib.hid (show (nm && (isF (cls c) r && good 3 3 (rsAt s (pos + d)))) = N0 by rw [← HG.out, good_next hp, hr, hd, hc])
      have HA1 := Lib.hid (show (al && (isF (cls 0) r && good 0 0 (rsAt s (pos + d)))) = good 0 0 (rs s) by rw [← HA.out, good_next hp, hr, hd])
      have HC := Lib.hid hc
      have hb1' := hw1.below _ _ hb hsz
      have hit2 := hw1.it
      have hT2 := hT.below hb1'
      have hks := (Array.getElem?_eq_some_iff.1 hit2).1
      have HP := Lib.hid hp
      clear hr hd hit hb HG HA hc
      by_cases hf : r = 65533
      · by_cases hsh : s.size < pos + 3
        · have H3 : Hid (three s pos ≠ [239, 191, 189]) := Lib.hid (three_short hsh)
          have hsh' : (s.size : Int) < pos + 3 := by omega
          subst hf
          have HB0 : val s 0 = false := HV.out.symm.trans (val_bad HP.out (by have := HR.out; omega) (Hid.out H3))
          have HN : Hid (nameB s = false) := Lib.hid (by rw [nameB, HB0]; simp)
          have HX : Hid (textsB s = false) := Lib.hid (by rw [textsB, HB0]; simp)
          clear HB0
          go_wp2_with fail
          have cN := name_calls s _ hs2 hT2
          rw [HN.out] at cN
          refine cN.mono ?_
          clear cN
          rintro e w3 ⟨rfl, hb3⟩
          have hT3 := hT2.below hb3
          have b3 := hb1'.trans (hb3.mono hb1'.size)
          go_wp2_with fail
          have cN := texts_calls s _ hs2 hT3
          rw [HX.out] at cN
          refine cN.mono ?_
          clear cN
          rintro e w4 ⟨rfl, hb4⟩
          have b4 := b3.trans (hb4.mono b3.size)
          go_wp2
          go_ret
          exact ⟨rfl, b4⟩
        · have hsh' : ¬ ((s.size : Int) < pos + 3) := by omega
          have hsl : pos + 3 ≤ s.size := by omega
          have hsx : ∀ wx : World, (Instr.slice 9 (.string s) (some (.int .i64 (pos : Int))) (some (.int .i64 ((pos : Int) + 3))) none).run Tryd.prog wx = .ok (.string (s.extract pos (pos + 3))) wx := fun wx => by
            have h := run_slice_string (P := Tryd.prog) wx 9 s .i64 .i64 (pos : Int) ((pos : Int) + 3) Tryd.underlying9 (by omega) (by omega) (by omega)
            rw [h]
            congr 1
          by_cases h3 : (s.extract pos (pos + 3)).toList = [239, 191, 189]
          · have HVN : Hid (val s (pos + d) = val s pos) := Lib.hid (by rw [HD.out]; exact (val_good HP.out (.inr (by rw [← three_extract, ← ByteArray.toList_eq]; exact h3))).symm)
            subst hf
            by_cases hz : pos = 0
            · obtain rfl : c = 2 := by rw [HC.out, if_pos hz]
              clear HC
              subst hz
              cases nm
              · cases al
                · have hit3 := hit2
                  have b3 := hb1'
                  have hT3 := hT2
                  go_wp2
                  go_roundw
                  case rel => exact ⟨0 + d, false, false, rfl, rfl, hit3, b3, hle, by rw [if_neg (by omega), ← HG1.out]; rfl, by rw [← HA1.out]; rfl, by first | exact HVN.out.trans HV.out | exact HVN.out⟩
                  case measure => rw [iterPos_of hit3, hpos0]; omega
                · have hit3 := hit2
                  have b3 := hb1'
                  have hT3 := hT2
                  go_wp2_with fail
                  refine (is_calls _ 0 65533 hT3.tab).mono ?_
                  rintro e w4 ⟨rfl, hb4⟩
                  have hit4 := (hb4.block _ hks).trans hit3
                  have b4 := b3.trans (hb4.mono b3.size)
                  clear hit3 b3 hT3
                  have hit3 := hit4
                  have b3 := b4
                  clear hit4 b4
                  go_wp2
                  go_roundw
                  case rel => exact ⟨0 + d, false, isF (cls 0) 65533, rfl, rfl, hit3, b3, hle, by rw [if_neg (by omega), ← HG1.out]; rfl, by rw [← HA1.out]; rfl, by first | exact HVN.out.trans HV.out | exact HVN.out⟩
                  case measure => rw [iterPos_of hit3, hpos0]; omega
              · cases al
                · have hit3 := hit2
                  have b3 := hb1'
                  have hT3 := hT2
                  go_wp2_with fail
                  refine (is_calls _ 2 65533 hT3.tab).mono ?_
                  rintro e w3 ⟨rfl, hb3⟩
                  have hit4 := (hb3.block _ hks).trans hit3
                  have hks := (Array.getElem?_eq_some_iff.1 hit4).1
                  have b4 := b3.trans (hb3.mono b3.size)
                  have hT4 := hT3.below hb3
                  clear hit3 b3 hT3
                  have hit3 := hit4
                  have b3 := b4
                  have hT3 := hT4
                  clear hit4 b4 hT4
                  go_wp2
                  go_roundw
                  case rel => exact ⟨0 + d, isF (cls 2) 65533, false, rfl, rfl, hit3, b3, hle, by rw [if_neg (by omega), ← HG1.out]; rfl, by rw [← HA1.out]; rfl, by first | exact HVN.out.trans HV.out | exact HVN.out⟩
                  case measure => rw [iterPos_of hit3, hpos0]; omega
                · have hit3 := hit2
                  have b3 := hb1'
                  have hT3 := hT2
                  go_wp2_with fail
                  refine (is_calls _ 2 65533 hT3.tab).mono ?_
                  rintro e w3 ⟨rfl, hb3⟩
                  have hit4 := (hb3.block _ hks).trans hit3
                  have hks := (Array.getElem?_eq_some_iff.1 hit4).1
                  have b4 := b3.trans (hb3.mono b3.size)
                  have hT4 := hT3.below hb3
                  clear hit3 b3 hT3
                  have hit3 := hit4
                  have b3 := b4
                  have hT3 := hT4
                  clear hit4 b4 hT4
                  go_wp2_with fail
                  refine (is_calls _ 0 65533 hT3.tab).mono ?_
                  rintro e w4 ⟨rfl, hb4⟩
                  have hit4 := (hb4.block _ hks).trans hit3
                  have b4 := b3.trans (hb4.mono b3.size)
                  clear hit3 b3 hT3
                  have hit3 := hit4
                  have b3 := b4
                  clear hit4 b4
                  go_wp2
                  go_roundw
                  case rel => exact ⟨0 + d, isF (cls 2) 65533, isF (cls 0) 65533, rfl, rfl, hit3, b3, hle, by rw [if_neg (by omega), ← HG1.out]; rfl, by rw [← HA1.out]; rfl, by first | exact HVN.out.trans HV.out | exact HVN.out⟩
                  case measure => rw [iterPos_of hit3, hpos0]; omega
            · obtain rfl : c = 3 := by rw [HC.out, if_neg hz]
              clear HC
              have hz' : ¬ ((pos : Int) = 0) := by omega
              cases nm
              · cases al
                · have hit3 := hit2
                  have b3 := hb1'
                  have hT3 := hT2
                  go_wp2
                  go_roundw
                  case rel => exact ⟨pos + d, false, false, rfl, rfl, hit3, b3, hle, by rw [if_neg (by omega), ← HG1.out]; rfl, by rw [← HA1.out]; rfl, by first | exact HVN.out.trans HV.out | exact HVN.out⟩
                  case measure => rw [iterPos_of hit3, hpos0]; omega
                · have hit3 := hit2
                  have b3 := hb1'
                  have hT3 := hT2
                  go_wp2_with fail
                  refine (is_calls _ 0 65533 hT3.tab).mono ?_
                  rintro e w4 ⟨rfl, hb4⟩
                  have hit4 := (hb4.block _ hks).trans hit3
                  have b4 := b3.trans (hb4.mono b3.size)
                  clear hit3 b3 hT3
                  have hit3 := hit4
                  have b3 := b4
                  clear hit4 b4
                  go_wp2
                  go_roundw
                  case rel => exact ⟨pos + d, false, isF (cls 0) 65533, rfl, rfl, hit3, b3, hle, by rw [if_neg (by omega), ← HG1.out]; rfl, by rw [← HA1.out]; rfl, by first | exact HVN.out.trans HV.out | exact HVN.out⟩
                  case measure => rw [iterPos_of hit3, hpos0]; omega
              · cases al
                · have hit3 := hit2
                  have b3 := hb1'
                  have hT3 := hT2
                  go_wp2_with fail
                  refine (is_calls _ 3 65533 hT3.tab).mono ?_
                  rintro e w3 ⟨rfl, hb3⟩
                  have hit4 := (hb3.block _ hks).trans hit3
                  have hks := (Array.getElem?_eq_some_iff.1 hit4).1
                  have b4 := b3.trans (hb3.mono b3.size)
                  have hT4 := hT3.below hb3
                  clear hit3 b3 hT3
                  have hit3 := hit4
                  have b3 := b4
                  have hT3 := hT4
                  clear hit4 b4 hT4
                  go_wp2
                  go_roundw
                  case rel => exact ⟨pos + d, isF (cls 3) 65533, false, rfl, rfl, hit3, b3, hle, by rw [if_neg (by omega), ← HG1.out]; rfl, by rw [← HA1.out]; rfl, by first | exact HVN.out.trans HV.out | exact HVN.out⟩
                  case measure => rw [iterPos_of hit3, hpos0]; omega
                · have hit3 := hit2
                  have b3 := hb1'
                  have hT3 := hT2
                  go_wp2_with fail
                  refine (is_calls _ 3 65533 hT3.tab).mono ?_
                  rintro e w3 ⟨rfl, hb3⟩
                  have hit4 := (hb3.block _ hks).trans hit3
                  have hks := (Array.getElem?_eq_some_iff.1 hit4).1
                  have b4 := b3.trans (hb3.mono b3.size)
                  have hT4 := hT3.below hb3
                  clear hit3 b3 hT3
                  have hit3 := hit4
                  have b3 := b4
                  have hT3 := hT4
                  clear hit4 b4 hT4
                  go_wp2_with fail
                  refine (is_calls _ 0 65533 hT3.tab).mono ?_
                  rintro e w4 ⟨rfl, hb4⟩
                  have hit4 := (hb4.block _ hks).trans hit3
                  have b4 := b3.trans (hb4.mono b3.size)
                  clear hit3 b3 hT3
                  have hit3 := hit4
                  have b3 := b4
                  clear hit4 b4
                  go_wp2
                  go_roundw
                  case rel => exact ⟨pos + d, isF (cls 3) 65533, isF (cls 0) 65533, rfl, rfl, hit3, b3, hle, by rw [if_neg (by omega), ← HG1.out]; rfl, by rw [← HA1.out]; rfl, by first | exact HVN.out.trans HV.out | exact HVN.out⟩
                  case measure => rw [iterPos_of hit3, hpos0]; omega
          · have H3 : Hid (three s pos ≠ [239, 191, 189]) := Lib.hid (by rw [← three_extract, ← ByteArray.toList_eq]; exact h3)
            have h4 : ((s.extract pos (pos + 3)).toList == [239, 191, 189]) = false := beq_false_of_ne h3
            have h5 : ((s.extract pos (pos + 3)).toList != [239, 191, 189]) = true := by rw [bne, h4]; rfl
            subst hf
            have HB0 : val s 0 = false := HV.out.symm.trans (val_bad HP.out (by have := HR.out; omega) (Hid.out H3))
            have HN : Hid (nameB s = false) := Lib.hid (by rw [nameB, HB0]; simp)
            have HX : Hid (textsB s = false) := Lib.hid (by rw [textsB, HB0]; simp)
            clear HB0
            go_wp2_with fail
            have cN := name_calls s _ hs2 hT2
            rw [HN.out] at cN
            refine cN.mono ?_
            clear cN
            rintro e w3 ⟨rfl, hb3⟩
            have hT3 := hT2.below hb3
            have b3 := hb1'.trans (hb3.mono hb1'.size)
            go_wp2_with fail
            have cN := texts_calls s _ hs2 hT3
            rw [HX.out] at cN
            refine cN.mono ?_
            clear cN
            rintro e w4 ⟨rfl, hb4⟩
            have b4 := b3.trans (hb4.mono b3.size)
            go_wp2
            go_ret
            exact ⟨rfl, b4⟩
      · have HVN : Hid (val s (pos + d) = val s pos) := Lib.hid (by rw [HD.out]; exact (val_good HP.out (.inl (by intro e; apply hf; rw [HR.out, e]; rfl))).symm)
        by_cases hz : pos = 0
        · obtain rfl : c = 2 := by rw [HC.out, if_pos hz]
          clear HC
          subst hz
          cases nm
          · cases al
            · have hit3 := hit2
              have b3 := hb1'
              have hT3 := hT2
              go_wp2
              go_roundw
              case rel => exact ⟨0 + d, false, false, rfl, rfl, hit3, b3, hle, by rw [if_neg (by omega), ← HG1.out]; rfl, by rw [← HA1.out]; rfl, by first | exact HVN.out.trans HV.out | exact HVN.out⟩
              case measure => rw [iterPos_of hit3, hpos0]; omega
            · have hit3 := hit2
              have b3 := hb1'
              have hT3 := hT2
              go_wp2_with fail
              refine (is_calls _ 0 r hT3.tab).mono ?_
              rintro e w4 ⟨rfl, hb4⟩
              have hit4 := (hb4.block _ hks).trans hit3
              have b4 := b3.trans (hb4.mono b3.size)
              clear hit3 b3 hT3
              have hit3 := hit4
              have b3 := b4
              clear hit4 b4
              go_wp2
              go_roundw
              case rel => exact ⟨0 + d, false, isF (cls 0) r, rfl, rfl, hit3, b3, hle, by rw [if_neg (by omega), ← HG1.out]; rfl, by rw [← HA1.out]; rfl, by first | exact HVN.out.trans HV.out | exact HVN.out⟩
              case measure => rw [iterPos_of hit3, hpos0]; omega
          · cases al
            · have hit3 := hit2
              have b3 := hb1'
              have hT3 := hT2
              go_wp2_with fail
              refine (is_calls _ 2 r hT3.tab).mono ?_
              rintro e w3 ⟨rfl, hb3⟩
              have hit4 := (hb3.block _ hks).trans hit3
              have hks := (Array.getElem?_eq_some_iff.1 hit4).1
              have b4 := b3.trans (hb3.mono b3.size)
              have hT4 := hT3.below hb3
              clear hit3 b3 hT3
              have hit3 := hit4
              have b3 := b4
              have hT3 := hT4
              clear hit4 b4 hT4
              go_wp2
              go_roundw
              case rel => exact ⟨0 + d, isF (cls 2) r, false, rfl, rfl, hit3, b3, hle, by rw [if_neg (by omega), ← HG1.out]; rfl, by rw [← HA1.out]; rfl, by first | exact HVN.out.trans HV.out | exact HVN.out⟩
              case measure => rw [iterPos_of hit3, hpos0]; omega
            · have hit3 := hit2
              have b3 := hb1'
              have hT3 := hT2
              go_wp2_with fail
              refine (is_calls _ 2 r hT3.tab).mono ?_
              rintro e w3 ⟨rfl, hb3⟩
              have hit4 := (hb3.block _ hks).trans hit3
              have hks := (Array.getElem?_eq_some_iff.1 hit4).1
              have b4 := b3.trans (hb3.mono b3.size)
              have hT4 := hT3.below hb3
              clear hit3 b3 hT3
              have hit3 := hit4
              have b3 := b4
              have hT3 := hT4
              clear hit4 b4 hT4
              go_wp2_with fail
              refine (is_calls _ 0 r hT3.tab).mono ?_
              rintro e w4 ⟨rfl, hb4⟩
              have hit4 := (hb4.block _ hks).trans hit3
              have b4 := b3.trans (hb4.mono b3.size)
              clear hit3 b3 hT3
              have hit3 := hit4
              have b3 := b4
              clear hit4 b4
              go_wp2
              go_roundw
              case rel => exact ⟨0 + d, isF (cls 2) r, isF (cls 0) r, rfl, rfl, hit3, b3, hle, by rw [if_neg (by omega), ← HG1.out]; rfl, by rw [← HA1.out]; rfl, by first | exact HVN.out.trans HV.out | exact HVN.out⟩
              case measure => rw [iterPos_of hit3, hpos0]; omega
        · obtain rfl : c = 3 := by rw [HC.out, if_neg hz]
          clear HC
          have hz' : ¬ ((pos : Int) = 0) := by omega
          cases nm
          · cases al
            · have hit3 := hit2
              have b3 := hb1'
              have hT3 := hT2
              go_wp2
              go_roundw
              case rel => exact ⟨pos + d, false, false, rfl, rfl, hit3, b3, hle, by rw [if_neg (by omega), ← HG1.out]; rfl, by rw [← HA1.out]; rfl, by first | exact HVN.out.trans HV.out | exact HVN.out⟩
              case measure => rw [iterPos_of hit3, hpos0]; omega
            · have hit3 := hit2
              have b3 := hb1'
              have hT3 := hT2
              go_wp2_with fail
              refine (is_calls _ 0 r hT3.tab).mono ?_
              rintro e w4 ⟨rfl, hb4⟩
              have hit4 := (hb4.block _ hks).trans hit3
              have b4 := b3.trans (hb4.mono b3.size)
              clear hit3 b3 hT3
              have hit3 := hit4
              have b3 := b4
              clear hit4 b4
              go_wp2
              go_roundw
              case rel => exact ⟨pos + d, false, isF (cls 0) r, rfl, rfl, hit3, b3, hle, by rw [if_neg (by omega), ← HG1.out]; rfl, by rw [← HA1.out]; rfl, by first | exact HVN.out.trans HV.out | exact HVN.out⟩
              case measure => rw [iterPos_of hit3, hpos0]; omega
          · cases al
            · have hit3 := hit2
              have b3 := hb1'
              have hT3 := hT2
              go_wp2_with fail
              refine (is_calls _ 3 r hT3.tab).mono ?_
              rintro e w3 ⟨rfl, hb3⟩
              have hit4 := (hb3.block _ hks).trans hit3
              have hks := (Array.getElem?_eq_some_iff.1 hit4).1
              have b4 := b3.trans (hb3.mono b3.size)
              have hT4 := hT3.below hb3
              clear hit3 b3 hT3
              have hit3 := hit4
              have b3 := b4
              have hT3 := hT4
              clear hit4 b4 hT4
              go_wp2
              go_roundw
              case rel => exact ⟨pos + d, isF (cls 3) r, false, rfl, rfl, hit3, b3, hle, by rw [if_neg (by omega), ← HG1.out]; rfl, by rw [← HA1.out]; rfl, by first | exact HVN.out.trans HV.out | exact HVN.out⟩
              case measure => rw [iterPos_of hit3, hpos0]; omega
            · have hit3 := hit2
              have b3 := hb1'
              have hT3 := hT2
              go_wp2_with fail
              refine (is_calls _ 3 r hT3.tab).mono ?_
              rintro e w3 ⟨rfl, hb3⟩
              have hit4 := (hb3.block _ hks).trans hit3
              have hks := (Array.getElem?_eq_some_iff.1 hit4).1
              have b4 := b3.trans (hb3.mono b3.size)
              have hT4 := hT3.below hb3
              clear hit3 b3 hT3
              have hit3 := hit4
              have b3 := b4
              have hT3 := hT4
              clear hit4 b4 hT4
              go_wp2_with fail
              refine (is_calls _ 0 r hT3.tab).mono ?_
              rintro e w4 ⟨rfl, hb4⟩
              have hit4 := (hb4.block _ hks).trans hit3
              have b4 := b3.trans (hb4.mono b3.size)
              clear hit3 b3 hT3
              have hit3 := hit4
              have b3 := b4
              clear hit4 b4
              go_wp2
              go_roundw
              case rel => exact ⟨pos + d, isF (cls 3) r, isF (cls 0) r, rfl, rfl, hit3, b3, hle, by rw [if_neg (by omega), ← HG1.out]; rfl, by rw [← HA1.out]; rfl, by first | exact HVN.out.trans HV.out | exact HVN.out⟩
              case measure => rw [iterPos_of hit3, hpos0]; omega
    · have hnx : ∀ ty, (Instr.next (.pointer (some ⟨w1.heap.size, 0, none⟩)) true ty).run Tryd.prog wr = _ := fun ty => Lib.run_next_end_at wr w1.heap.size s pos ty hit hp
      have hV1 : val s 0 = true := HV.out.symm.trans (val_end hp)
      have hn : nm = N0 := by have := HG.out; rw [good_end hp, Bool.and_true] at this; exact this
      have ha : al = good 0 0 (rs s) := by have := HA.out; rw [good_end hp, Bool.and_true] at this; exact this
      have HN : Hid (nameB s = nm) := Lib.hid (by rw [hn, HN0.out, nameB, hV1, Bool.and_true, Bool.and_comm])
      have HX : Hid (textsB s = al) := Lib.hid (by rw [ha, textsB, hV1, Bool.and_true])
      have hT2 := hT.below hb
      clear hV1 hn ha
      go_wp2_with fail
      have cN := name_calls s _ hs2 hT2
      rw [HN.out] at cN
      refine cN.mono ?_
      clear cN
      rintro e w3 ⟨rfl, hb3⟩
      have hT3 := hT2.below hb3
      have b3 := hb.trans (hb3.mono hb.size)
      go_wp2_with fail
      have cN := texts_calls s _ hs2 hT3
      rw [HX.out] at cN
      refine cN.mono ?_
      clear cN
      rintro e w4 ⟨rfl, hb4⟩
      have b4 := b3.trans (hb4.mono b3.size)
      go_wp2
      go_ret
      exact ⟨rfl, b4⟩
end Go.Proofs.YtianmebhmjdakaaDoor
