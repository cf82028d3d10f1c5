/- The walk of gimletlaw03.WordsAsked. -/
import Derived.Test.YtnhhnlbfgipebaaDoorAskedB
import Derived.Test.YtnhhnlbfgipebaaDoorAwake
namespace Go.Proofs.YtnhhnlbfgipebaaDoor
open Go.RowKit Gim
set_option maxRecDepth 20000 in
set_option maxHeartbeats 8000000 in
theorem wordsAsked_walk (s t : ByteArray) (a c : Int) (w : World) (hs : s.size ≤ 1048576) (ht : t.size ≤ 1048576) (ha : (Lit.int .i64 a).wf = true) (hc : (Lit.int .i64 c).wf = true) (hT : Tab 2 w) :
    Calls Tryd.prog 3 #[.agg #[.string s, .string t, .int .i64 a, .int .i64 c]] w fun e w' => e = .returned (.bool true) ∧ Below w.heap.size w w' := by
  have ha' : -9223372036854775808 ≤ a ∧ a ≤ 9223372036854775807 := by simpa [Lit.wf, IntKind.min, IntKind.max, IntKind.signed, IntKind.bits] using ha
  have hc' : -9223372036854775808 ≤ c ∧ c ≤ 9223372036854775807 := by simpa [Lit.wf, IntKind.min, IntKind.max, IntKind.signed, IntKind.bits] using hc
  obtain ⟨ha0, ha1⟩ := ha'
  obtain ⟨hc0, hc1⟩ := hc'
  have ls := rs_length s
  clear ha hc
  go_enter Tryd.func3, Tryd.ntmps3
  obtain ⟨wb, hwb⟩ : ∃ wb, wb = w.alloc (.cells #[.string s, .string t, .int .i64 a, .int .i64 c] 23) := ⟨_, rfl⟩
  have hB0 : Below w.heap.size w wb := by rw [hwb]; exact (Below.refl _ _).alloc (Nat.le_refl _) _
  have hz : wb.heap.size = w.heap.size + 1 := by rw [hwb]; simp
  have hx : wb.heap[w.heap.size]? = some (.cells #[.string s, .string t, .int .i64 a, .int .i64 c] 23) := by rw [hwb]; exact heap_alloc_new _ _
  go_wp2_with fail
  rw [← hwb]
  clear hwb
  refine (awake wb).mono ?_
  rintro e w1 ⟨rfl, hb1⟩
  have hx1 := (hb1.block w.heap.size (by omega)).trans hx
  have f0 : w1.cell? ⟨w.heap.size, 0, none⟩ = some (.string s) := by simp [World.cell?, hx1]
  have f1 : w1.cell? ⟨w.heap.size, 1, none⟩ = some (.string t) := by simp [World.cell?, hx1]
  have f2 : w1.cell? ⟨w.heap.size, 2, none⟩ = some (.int .i64 a) := by simp [World.cell?, hx1]
  have f3 : w1.cell? ⟨w.heap.size, 3, none⟩ = some (.int .i64 c) := by simp [World.cell?, hx1]
  have b1 := hB0.trans (hb1.mono (by omega))
  clear hx hx1 hb1 hz hB0
  go_wp2
  go_quiet (fail)
  have b2 := b1.trans (((Drew.refl w1).drewN nq).below _)
  obtain ⟨w2, hw2⟩ : ∃ w2, w2 = w1.drewN nq := ⟨_, rfl⟩
  rw [← hw2] at b2 ⊢
  clear hw2 f0 f1 f2 f3 b1
  obtain ⟨n, hn⟩ : ∃ n, n = (rs s).length := ⟨_, rfl⟩
  have hn20 : n ≤ 1048576 := by omega
  have cl := wordsLength s w2 (by omega)
  have cr := fun wx => refLength s wx (by omega)
  rw [← hn] at cl cr
  clear hn
  go_wp2_with fail
  refine (cl).mono ?_
  rintro e w3 ⟨rfl, k⟩
  have b3 := b2.trans (k.mono b2.size)
  clear k b2
  go_wp2_with fail
  refine (cr w3).mono ?_
  rintro e w4 ⟨rfl, k⟩
  have b4 := b3.trans (k.mono b3.size)
  clear k b3
  obtain ⟨X, hX⟩ : ∃ X, X = runesBytes (subI (rs s) a c) := ⟨_, rfl⟩
  go_wp2_with fail
  refine (sub s a c w4 (by omega) ha0 ha1 hc0 hc1).mono ?_
  rintro e w5 ⟨rfl, k⟩
  have b5 := b4.trans (k.mono b4.size)
  rw [← hX]
  clear k b4
  go_wp2_with fail
  refine (refSub s a c w5 (by omega) ha0 ha1 hc0 hc1).mono ?_
  rintro e w6 ⟨rfl, k⟩
  have b6 := b5.trans (k.mono b5.size)
  rw [← hX]
  clear k b5
  clear hX
  obtain ⟨Y, hY⟩ : ∃ Y, Y = runesBytes (sq (rs s)).2 := ⟨_, rfl⟩
  go_wp2_with fail
  refine (squeeze s w6 (by omega) (hT.below b6)).mono ?_
  rintro e w7 ⟨rfl, k⟩
  have b7 := b6.trans (k.mono b6.size)
  rw [← hY]
  clear k b6
  go_wp2_with fail
  refine (refSqueeze s w7 (by omega)).mono ?_
  rintro e w8 ⟨rfl, k⟩
  have b8 := b7.trans (k.mono b7.size)
  rw [← hY]
  clear k b7
  clear hY
  obtain ⟨Z, hZ⟩ : ∃ Z, Z = runesBytes (rs s).reverse := ⟨_, rfl⟩
  go_wp2_with fail
  refine (reverse s w8 (by omega)).mono ?_
  rintro e w9 ⟨rfl, k⟩
  have b9 := b8.trans (k.mono b8.size)
  rw [← hZ]
  clear k b8
  go_wp2_with fail
  refine (refReverse s w9 (by omega)).mono ?_
  rintro e w10 ⟨rfl, k⟩
  have b10 := b9.trans (k.mono b9.size)
  rw [← hZ]
  clear k b9
  clear hZ
  obtain ⟨o1, ho1⟩ : ∃ o, o = ordI (rs s) (rs t) := ⟨_, rfl⟩
  go_wp2_with fail
  refine (compare s t w10 (by omega) (by omega)).mono ?_
  rintro e w11 ⟨rfl, k⟩
  have b11 := b10.trans (k.mono b10.size)
  rw [← ho1]
  clear k b10
  go_wp2_with fail
  refine (refCompare s t w11 (by omega) (by omega)).mono ?_
  rintro e w12 ⟨rfl, k⟩
  have b12 := b11.trans (k.mono b11.size)
  rw [← ho1]
  clear k b11
  clear ho1
  obtain ⟨o2, ho2⟩ : ∃ o, o = ordI (unI (rs s)) (unI (rs t)) := ⟨_, rfl⟩
  go_wp2_with fail
  refine (compareUnits s t w12 (by omega) (by omega)).mono ?_
  rintro e w13 ⟨rfl, k⟩
  have b13 := b12.trans (k.mono b12.size)
  rw [← ho2]
  clear k b12
  go_wp2_with fail
  refine (refCompareUnits s t w13 (by omega) (by omega)).mono ?_
  rintro e w14 ⟨rfl, k⟩
  have b14 := b13.trans (k.mono b13.size)
  rw [← ho2]
  clear k b13
  clear ho2
  go_wp2
  go_ret
  exact ⟨rfl, b14⟩
end Go.Proofs.YtnhhnlbfgipebaaDoor
