/- The walks of gimletlaw02.CharsIs and CharsChain's law. -/
import Derived.Test.YtianmebhmjdakaaDoorNames
import Derived.Test.YtianmebhmjdakaaDoorCref
namespace Go.Proofs.YtianmebhmjdakaaDoor
open Go.RowKit Gim
theorem of_wf32 {n : Int} (h : (Lit.int .i32 n).wf = true) : -2147483648 ≤ n ∧ n ≤ 2147483647 := by
  simp [Lit.wf, IntKind.min, IntKind.max, IntKind.signed, IntKind.bits] at h
  omega
theorem of_wf64 {n : Int} (h : (Lit.int .i64 n).wf = true) : -9223372036854775808 ≤ n ∧ n ≤ 9223372036854775807 := by
  simp [Lit.wf, IntKind.min, IntKind.max, IntKind.signed, IntKind.bits] at h
  omega
theorem charsIs_walk (c r : Int) (w : World) (hr : -2147483648 ≤ r) (hr2 : r ≤ 2147483647) (hT : Laid w) :
    Calls Tryd.prog 5 #[.int .i64 c, .int .i32 r] w fun e w' => e = .returned (.bool true) ∧ Below w.heap.size w w' := by
  go_enter Tryd.func5, Tryd.ntmps5
  go_wp2_with fail
  refine (fixed_calls w hT).mono ?_
  rintro e w1 ⟨rfl, hb1⟩
  have hT1 := hT.below hb1
  go_wp2_with fail
  refine (is_calls w1 c r hT1.tab).mono ?_
  rintro e w2 ⟨rfl, hb2⟩
  have hT2 := hT1.below hb2
  have b2 := hb1.trans (hb2.mono hb1.size)
  go_wp2_with fail
  have cR := refIs_calls w2 c r
  rw [← is_same r (cls_rising c)] at cR
  refine cR.mono ?_
  rintro e w3 ⟨rfl, hb3⟩
  have hT3 := hT2.below hb3
  have b3 := b2.trans (hb3.mono b2.size)
  obtain ⟨q, hq⟩ : ∃ q : Int × Bool, q = nextC (cls c) r := ⟨_, rfl⟩
  have HQ := Lib.hid hq
  have hq1 := nextC_range r (cls_rising c) (Int.le_refl 0)
  rw [← hq] at hq1
  obtain ⟨q1, q2⟩ := q
  obtain ⟨hq1, hq2⟩ := hq1
  simp only [] at hq1 hq2
  clear hq
  obtain ⟨m, hm⟩ : ∃ m : Int, m = countC (cls c) r := ⟨_, rfl⟩
  have HM := Lib.hid hm
  clear hm
  go_wp2_with fail
  have cN := next_calls w3 c r hT3.tab hr
  rw [← HQ.out] at cN
  refine cN.mono ?_
  rintro e w4 ⟨rfl, hb4⟩
  have hT4 := hT3.below hb4
  have b4 := b3.trans (hb4.mono b3.size)
  go_wp2_with fail
  have cN := refNext_calls w4 c r hr
  rw [← HQ.out] at cN
  refine cN.mono ?_
  rintro e w5 ⟨rfl, hb5⟩
  have hT5 := hT4.below hb5
  have b5 := b4.trans (hb5.mono b4.size)
  go_wp2_with fail
  have cN := count_calls w5 c r hT5.tab hr
  rw [← HM.out] at cN
  refine cN.mono ?_
  rintro e w6 ⟨rfl, hb6⟩
  have b6 := b5.trans (hb6.mono b5.size)
  go_wp2_with fail
  have cN := refCount_calls w6 c r hr
  rw [← HM.out] at cN
  refine cN.mono ?_
  rintro e w7 ⟨rfl, hb7⟩
  have b7 := b6.trans (hb7.mono b6.size)
  go_wp2
  go_ret
  exact ⟨rfl, b7⟩
end Go.Proofs.YtianmebhmjdakaaDoor
