/- The walk of gimletlaw02.CharsChain. -/
import Derived.Test.YtianmebhmjdakaaDoorNames
namespace Go.Proofs.YtianmebhmjdakaaDoor
open Go.RowKit Gim
set_option maxHeartbeats 1000000 in
theorem charsChain_walk (c r : Int) (w : World) (hr : -2147483648 ≤ r) (hr2 : r ≤ 2147483647) (hT : Laid w) :
    Calls Tryd.prog 6 #[.int .i64 c, .int .i32 r] w fun e w' => e = .returned (.bool true) ∧ Below w.heap.size w w' := by
  have hris := Lib.hid (cls_rising c)
  have hl18 := Lib.hid (cls_length c)
  have CR : ∀ x : Int, Hid (0 ≤ countC (cls c) x ∧ countC (cls c) x ≤ 36000000) := fun x => Lib.hid (by
    have h1 := countC_range x hris.out (Int.le_refl 0); have h2 := hl18.out; omega)
  obtain ⟨n, hn⟩ : ∃ n : Int, n = countC (cls c) r := ⟨_, rfl⟩
  have hn0 : 0 ≤ n := by rw [hn]; exact (CR r).out.1
  have hn1 : n ≤ 36000000 := by rw [hn]; exact (CR r).out.2
  have HN := Lib.hid hn
  clear hn
  obtain ⟨m, ok, hm⟩ : ∃ (m : Int) (ok : Bool), (m, ok) = nextC (cls c) r := ⟨_, _, rfl⟩
  have hm1 : m = (nextC (cls c) r).1 := by rw [← hm]
  have hm2 : ok = (nextC (cls c) r).2 := by rw [← hm]
  have hmr := nextC_range r hris.out (Int.le_refl 0)
  rw [← hm1] at hmr
  obtain ⟨hm0, hmx⟩ := hmr
  have HM1 := Lib.hid hm1
  have HM2 := Lib.hid hm2
  clear hm hm1 hm2
  go_enter Tryd.func6, Tryd.ntmps6
  go_wp2_with fail
  refine (fixed_calls w hT).mono ?_
  rintro e w1 ⟨rfl, hb1⟩
  have hT1 := hT.below hb1
  go_wp2_with fail
  have cN := count_calls w1 c r hT1.tab hr
  rw [← HN.out] at cN
  refine cN.mono ?_
  clear cN
  rintro e w2 ⟨rfl, hb2⟩
  have hT2 := hT1.below hb2
  have b2 := hb1.trans (hb2.mono hb1.size)
  by_cases hmin : -2147483648 < r
  · have hg := countC_grow r hris.out
    rw [← is_same r hris.out, ← HN.out] at hg
    obtain ⟨n1, hn1'⟩ : ∃ n1 : Int, n1 = countC (cls c) (r - 1) := ⟨_, rfl⟩
    rw [← hn1'] at hg
    have HN1 := Lib.hid hn1'
    clear hn1'
    cases hi : isF (cls c) r
    · rw [hi] at hg
      simp at hg
      have HI := Lib.hid hi
      clear hi
      obtain rfl : n1 = n := by omega
      clear hg
      go_wp2_with fail
      have cN := is_calls w2 c r hT2.tab
      rw [HI.out] at cN
      refine cN.mono ?_
      clear cN
      rintro e w3 ⟨rfl, hb3⟩
      have hT3 := hT2.below hb3
      have b3 := b2.trans (hb3.mono b2.size)
      go_wp2_with fail
      have cN := count_calls w3 c (r - 1) hT3.tab (by omega)
      rw [← HN1.out] at cN
      refine cN.mono ?_
      clear cN
      rintro e w4 ⟨rfl, hb4⟩
      have hT4 := hT3.below hb4
      have b4 := b3.trans (hb4.mono b3.size)
      go_wp2_with fail
      have cN := next_calls w4 c r hT4.tab hr
      rw [← HM1.out, ← HM2.out] at cN
      refine cN.mono ?_
      clear cN
      rintro e w5 ⟨rfl, hb5⟩
      have hT5 := hT4.below hb5
      have b5 := b4.trans (hb5.mono b4.size)
      cases ok
      · have h0 := nextC_none hris.out HM2.out.symm
        obtain rfl : m = 0 := HM1.out.trans h0.1
        have HZ := Lib.hid ((h0.2 2147483647 hr2).trans HN.out.symm)
        clear h0
        go_wp2_with fail
        have cN := count_calls w5 c 2147483647 hT5.tab (by omega)
        rw [HZ.out] at cN
        refine cN.mono ?_
        clear cN
        rintro e w6 ⟨rfl, hb6⟩
        have hT6 := hT5.below hb6
        have b6 := b5.trans (hb6.mono b5.size)
        go_wp2
        go_ret
        exact ⟨rfl, b6⟩
      · obtain ⟨g1, _, g3, g4, g5⟩ := nextC_some hris.out HM2.out.symm
        rw [← HM1.out] at g1 g3 g4 g5
        rw [← HN.out] at g4 g5
        rw [← is_same m hris.out] at g3
        have G3 := Lib.hid g3
        have G4 := Lib.hid g4
        have G5 := Lib.hid g5
        clear g3 g4 g5
        go_wp2_with fail
        have cN := is_calls w5 c m hT5.tab
        rw [G3.out] at cN
        refine cN.mono ?_
        clear cN
        rintro e w6 ⟨rfl, hb6⟩
        have hT6 := hT5.below hb6
        have b6 := b5.trans (hb6.mono b5.size)
        go_wp2_with fail
        have cN := count_calls w6 c m hT6.tab (by omega)
        rw [G4.out] at cN
        refine cN.mono ?_
        clear cN
        rintro e w7 ⟨rfl, hb7⟩
        have hT7 := hT6.below hb7
        have b7 := b6.trans (hb7.mono b6.size)
        go_wp2_with fail
        have cN := count_calls w7 c (m - 1) hT7.tab (by omega)
        rw [G5.out] at cN
        refine cN.mono ?_
        clear cN
        rintro e w8 ⟨rfl, hb8⟩
        have hT8 := hT7.below hb8
        have b8 := b7.trans (hb8.mono b7.size)
        go_wp2
        go_ret
        exact ⟨rfl, b8⟩
    · rw [hi] at hg
      simp at hg
      have HI := Lib.hid hi
      clear hi
      obtain rfl : n1 = n - 1 := by omega
      clear hg
      go_wp2_with fail
      have cN := is_calls w2 c r hT2.tab
      rw [HI.out] at cN
      refine cN.mono ?_
      clear cN
      rintro e w3 ⟨rfl, hb3⟩
      have hT3 := hT2.below hb3
      have b3 := b2.trans (hb3.mono b2.size)
      go_wp2_with fail
      have cN := count_calls w3 c (r - 1) hT3.tab (by omega)
      rw [← HN1.out] at cN
      refine cN.mono ?_
      clear cN
      rintro e w4 ⟨rfl, hb4⟩
      have hT4 := hT3.below hb4
      have b4 := b3.trans (hb4.mono b3.size)
      go_wp2_with fail
      have cN := next_calls w4 c r hT4.tab hr
      rw [← HM1.out, ← HM2.out] at cN
      refine cN.mono ?_
      clear cN
      rintro e w5 ⟨rfl, hb5⟩
      have hT5 := hT4.below hb5
      have b5 := b4.trans (hb5.mono b4.size)
      cases ok
      · have h0 := nextC_none hris.out HM2.out.symm
        obtain rfl : m = 0 := HM1.out.trans h0.1
        have HZ := Lib.hid ((h0.2 2147483647 hr2).trans HN.out.symm)
        clear h0
        go_wp2_with fail
        have cN := count_calls w5 c 2147483647 hT5.tab (by omega)
        rw [HZ.out] at cN
        refine cN.mono ?_
        clear cN
        rintro e w6 ⟨rfl, hb6⟩
        have hT6 := hT5.below hb6
        have b6 := b5.trans (hb6.mono b5.size)
        go_wp2
        go_ret
        exact ⟨rfl, b6⟩
      · obtain ⟨g1, _, g3, g4, g5⟩ := nextC_some hris.out HM2.out.symm
        rw [← HM1.out] at g1 g3 g4 g5
        rw [← HN.out] at g4 g5
        rw [← is_same m hris.out] at g3
        have G3 := Lib.hid g3
        have G4 := Lib.hid g4
        have G5 := Lib.hid g5
        clear g3 g4 g5
        go_wp2_with fail
        have cN := is_calls w5 c m hT5.tab
        rw [G3.out] at cN
        refine cN.mono ?_
        clear cN
        rintro e w6 ⟨rfl, hb6⟩
        have hT6 := hT5.below hb6
        have b6 := b5.trans (hb6.mono b5.size)
        go_wp2_with fail
        have cN := count_calls w6 c m hT6.tab (by omega)
        rw [G4.out] at cN
        refine cN.mono ?_
        clear cN
        rintro e w7 ⟨rfl, hb7⟩
        have hT7 := hT6.below hb7
        have b7 := b6.trans (hb7.mono b6.size)
        go_wp2_with fail
        have cN := count_calls w7 c (m - 1) hT7.tab (by omega)
        rw [G5.out] at cN
        refine cN.mono ?_
        clear cN
        rintro e w8 ⟨rfl, hb8⟩
        have hT8 := hT7.below hb8
        have b8 := b7.trans (hb8.mono b7.size)
        go_wp2
        go_ret
        exact ⟨rfl, b8⟩
  · obtain rfl : r = -2147483648 := by omega
    go_wp2_with fail
    have cN := next_calls w2 c (-2147483648) hT2.tab hr
    rw [← HM1.out, ← HM2.out] at cN
    refine cN.mono ?_
    clear cN
    rintro e w3 ⟨rfl, hb3⟩
    have hT3 := hT2.below hb3
    have b3 := b2.trans (hb3.mono b2.size)
    cases ok
    · have h0 := nextC_none hris.out HM2.out.symm
      obtain rfl : m = 0 := HM1.out.trans h0.1
      have HZ := Lib.hid ((h0.2 2147483647 hr2).trans HN.out.symm)
      clear h0
      go_wp2_with fail
      have cN := count_calls w3 c 2147483647 hT3.tab (by omega)
      rw [HZ.out] at cN
      refine cN.mono ?_
      clear cN
      rintro e w4 ⟨rfl, hb4⟩
      have hT4 := hT3.below hb4
      have b4 := b3.trans (hb4.mono b3.size)
      go_wp2
      go_ret
      exact ⟨rfl, b4⟩
    · obtain ⟨g1, _, g3, g4, g5⟩ := nextC_some hris.out HM2.out.symm
      rw [← HM1.out] at g1 g3 g4 g5
      rw [← HN.out] at g4 g5
      rw [← is_same m hris.out] at g3
      have G3 := Lib.hid g3
      have G4 := Lib.hid g4
      have G5 := Lib.hid g5
      clear g3 g4 g5
      go_wp2_with fail
      have cN := is_calls w3 c m hT3.tab
      rw [G3.out] at cN
      refine cN.mono ?_
      clear cN
      rintro e w4 ⟨rfl, hb4⟩
      have hT4 := hT3.below hb4
      have b4 := b3.trans (hb4.mono b3.size)
      go_wp2_with fail
      have cN := count_calls w4 c m hT4.tab (by omega)
      rw [G4.out] at cN
      refine cN.mono ?_
      clear cN
      rintro e w5 ⟨rfl, hb5⟩
      have hT5 := hT4.below hb5
      have b5 := b4.trans (hb5.mono b4.size)
      go_wp2_with fail
      have cN := count_calls w5 c (m - 1) hT5.tab (by omega)
      rw [G5.out] at cN
      refine cN.mono ?_
      clear cN
      rintro e w6 ⟨rfl, hb6⟩
      have hT6 := hT5.below hb6
      have b6 := b5.trans (hb6.mono b5.size)
      go_wp2
      go_ret
      exact ⟨rfl, b6⟩
end Go.Proofs.YtianmebhmjdakaaDoor
