/- ask.goodExpr of any expression. Printed by wip/mkqgood2.py. -/
import Derived.Test.YtghepjbfhjkinaaDoorQGood
namespace Go.Proofs.YtghepjbfhjkinaaDoor
open Go.RowKit Gim
set_option maxRecDepth 100000 in
set_option maxHeartbeats 16000000 in
theorem goodExpr_calls (op : Int) (args : List Ex) (sts : List St) (nm : ByteArray) (cmp : Int) (txt : ByteArray) (num : Int) (hnm : nm.size ≤ 9223372036854775807) (htx : txt.size ≤ 9223372036854775807) (hE : ∀ x ∈ args, CEx x) (hS : ∀ x ∈ sts, CSt x) : CEx (.mk op args sts nm cmp txt num) := by
  intro w op' args' sts' nm' cmp' txt' num' a1 n1 c1 a2 n2 c2 he hF1 hF2 hT
  obtain ⟨rfl, rfl, rfl, rfl, rfl, rfl, rfl⟩ := Ex.mk.inj he
  clear he
  have b0 : Below w.heap.size w (w.alloc (.cells #[.int .i64 op, .slice a1 n1 c1, .slice a2 n2 c2, .string nm, .int .i64 cmp, .string txt, .int .i64 num] 52)) := (Below.refl _ _).alloc (Nat.le_refl _) _
  have x0 := heap_alloc_new w (.cells #[.int .i64 op, .slice a1 n1 c1, .slice a2 n2 c2, .string nm, .int .i64 cmp, .string txt, .int .i64 num] 52)
  have hP := fun W (hb : Below w.heap.size w W) => goodPath_calls sts a2 n2 c2 W (hF2.below hb) (hT.below hb) hS
  have hN := fun W (hb : Below w.heap.size w W) => name_calls nm W hnm (hT.below hb)
  have hX := fun W (hb : Below w.heap.size w W) => goodText_calls txt W htx (hT.below hb)
  have hC := fun W (hb : Below w.heap.size w W) => exprCloCon_calls args a1 n1 c1 W (hF1.below hb) (hT.below hb) hE
  have hl1 := hF1.len
  have hl2 := hF2.len
  have hcm := hF1.cap_le
  have hle := hF1.le
  have hnb : n1 ≤ 9223372036854775807 := by unfold maxLen at hcm; omega
  have hcm2 := hF2.cap_le
  have hle2 := hF2.le
  have hnb2 : n2 ≤ 9223372036854775807 := by unfold maxLen at hcm2; omega
  have HB := Lib.hid b0
  have HX := Lib.hid x0
  have hg : gdX (.mk op args sts nm cmp txt num) = (if op = 3 then decide (n1 = 0) && (gdP sts && ((nm.toList.isEmpty || nameB nm) && (if cmp = 0 then txt.toList.isEmpty && decide (num = 0) else if 1 ≤ cmp ∧ cmp ≤ 5 then txB txt && decide (num = 0) else if 6 ≤ cmp ∧ cmp ≤ 8 then txt.toList.isEmpty && (decide (0 ≤ num) && decide (num ≤ 1000000)) else false))) else decide (n2 = 0) && (nm.toList.isEmpty && (decide (cmp = 0) && (txt.toList.isEmpty && (decide (num = 0) && (lnB op n1 && gdXL args)))))) := by
    unfold gdX gdP cmB emB
    rw [hl1, hl2]
  obtain ⟨g, hgg⟩ : ∃ g, gdXL args = g := ⟨_, rfl⟩
  obtain ⟨p, hpp⟩ : ∃ p, gdP sts = p := ⟨_, rfl⟩
  obtain ⟨v, hvv⟩ : ∃ v, nameB nm = v := ⟨_, rfl⟩
  obtain ⟨t, htt⟩ : ∃ t, txB txt = t := ⟨_, rfl⟩
  simp only [hgg] at hC
  simp only [hpp] at hP
  simp only [hvv] at hN
  simp only [htt] at hX
  rw [hgg, hpp, hvv, htt] at hg
  rw [hg]
  clear hg hgg hpp hvv htt hF1 hF2 hT hE hS b0 x0 hl1 hl2 hcm hle hcm2 hle2
  obtain ⟨R, hR⟩ : ∃ R, (if op = 3 then decide (n1 = 0) && (p && ((nm.toList.isEmpty || v) && (if cmp = 0 then txt.toList.isEmpty && decide (num = 0) else if 1 ≤ cmp ∧ cmp ≤ 5 then t && decide (num = 0) else if 6 ≤ cmp ∧ cmp ≤ 8 then txt.toList.isEmpty && (decide (0 ≤ num) && decide (num ≤ 1000000)) else false))) else decide (n2 = 0) && (nm.toList.isEmpty && (decide (cmp = 0) && (txt.toList.isEmpty && (decide (num = 0) && (lnB op n1 && g)))))) = R := ⟨_, rfl⟩
  rw [hR]
  have HR := Lib.hid hR
  have HP := Lib.hid hP
  have HN := Lib.hid hN
  have HXT := Lib.hid hX
  have HC := Lib.hid hC
  clear hR hP hN hX hC hnm htx
  by_cases h3 : op = 3
  · subst h3
    by_cases hz : n1 = 0
    · subst hz
      have hP1 := HP.out _ HB.out
      cases p
      · go_enter Tryd.func25, Tryd.ntmps25
        go_wp2_with fail
        refine hP1.mono ?_
        rintro e w1 ⟨rfl, b1⟩
        have HB1 := Lib.hid (HB.out.trans (b1.mono HB.out.size))
        have hx := (b1.block _ (Array.getElem?_eq_some_iff.1 HX.out).1).trans HX.out
        have HX1 := Lib.hid hx
        have k0 : w1.cell? ⟨w.heap.size, 0, none⟩ = some (.int .i64 3) := by simp [World.cell?, hx]
        have k1 : w1.cell? ⟨w.heap.size, 1, none⟩ = some (.slice a1 0 c1) := by simp [World.cell?, hx]
        have k2 : w1.cell? ⟨w.heap.size, 2, none⟩ = some (.slice a2 n2 c2) := by simp [World.cell?, hx]
        have k3 : w1.cell? ⟨w.heap.size, 3, none⟩ = some (.string nm) := by simp [World.cell?, hx]
        have k4 : w1.cell? ⟨w.heap.size, 4, none⟩ = some (.int .i64 cmp) := by simp [World.cell?, hx]
        have k5 : w1.cell? ⟨w.heap.size, 5, none⟩ = some (.string txt) := by simp [World.cell?, hx]
        have k6 : w1.cell? ⟨w.heap.size, 6, none⟩ = some (.int .i64 num) := by simp [World.cell?, hx]
        clear hx
        clear hP1 b1
        go_wp2_with fail
        go_ret
        exact ⟨by rw [← HR.out]; first | rfl | (simp; done) | (simp; omega), HB1.out⟩
      · go_enter Tryd.func25, Tryd.ntmps25
        go_wp2_with fail
        refine hP1.mono ?_
        rintro e w1 ⟨rfl, b1⟩
        have HB1 := Lib.hid (HB.out.trans (b1.mono HB.out.size))
        have hx := (b1.block _ (Array.getElem?_eq_some_iff.1 HX.out).1).trans HX.out
        have HX1 := Lib.hid hx
        have k0 : w1.cell? ⟨w.heap.size, 0, none⟩ = some (.int .i64 3) := by simp [World.cell?, hx]
        have k1 : w1.cell? ⟨w.heap.size, 1, none⟩ = some (.slice a1 0 c1) := by simp [World.cell?, hx]
        have k2 : w1.cell? ⟨w.heap.size, 2, none⟩ = some (.slice a2 n2 c2) := by simp [World.cell?, hx]
        have k3 : w1.cell? ⟨w.heap.size, 3, none⟩ = some (.string nm) := by simp [World.cell?, hx]
        have k4 : w1.cell? ⟨w.heap.size, 4, none⟩ = some (.int .i64 cmp) := by simp [World.cell?, hx]
        have k5 : w1.cell? ⟨w.heap.size, 5, none⟩ = some (.string txt) := by simp [World.cell?, hx]
        have k6 : w1.cell? ⟨w.heap.size, 6, none⟩ = some (.int .i64 num) := by simp [World.cell?, hx]
        clear hx
        clear hP1 b1
        cases hn : nm.toList.isEmpty
        · rw [hn] at HR
          have hN1 := HN.out w1 HB1.out
          cases v
          · go_wp2_with fail
            refine hN1.mono ?_
            rintro e w2 ⟨rfl, b2⟩
            have HB2 := Lib.hid (HB1.out.trans (b2.mono HB1.out.size))
            clear k0 k1 k2 k3 k4 k5 k6
            have hx := (b2.block _ (Array.getElem?_eq_some_iff.1 HX1.out).1).trans HX1.out
            have HX2 := Lib.hid hx
            have k0 : w2.cell? ⟨w.heap.size, 0, none⟩ = some (.int .i64 3) := by simp [World.cell?, hx]
            have k1 : w2.cell? ⟨w.heap.size, 1, none⟩ = some (.slice a1 0 c1) := by simp [World.cell?, hx]
            have k2 : w2.cell? ⟨w.heap.size, 2, none⟩ = some (.slice a2 n2 c2) := by simp [World.cell?, hx]
            have k3 : w2.cell? ⟨w.heap.size, 3, none⟩ = some (.string nm) := by simp [World.cell?, hx]
            have k4 : w2.cell? ⟨w.heap.size, 4, none⟩ = some (.int .i64 cmp) := by simp [World.cell?, hx]
            have k5 : w2.cell? ⟨w.heap.size, 5, none⟩ = some (.string txt) := by simp [World.cell?, hx]
            have k6 : w2.cell? ⟨w.heap.size, 6, none⟩ = some (.int .i64 num) := by simp [World.cell?, hx]
            clear hx
            clear hN1 b2
            go_wp2_with fail
            go_ret
            exact ⟨by rw [← HR.out]; first | rfl | (simp; done) | (simp; omega), HB2.out⟩
          · go_wp2_with fail
            refine hN1.mono ?_
            rintro e w2 ⟨rfl, b2⟩
            have HB2 := Lib.hid (HB1.out.trans (b2.mono HB1.out.size))
            clear k0 k1 k2 k3 k4 k5 k6
            have hx := (b2.block _ (Array.getElem?_eq_some_iff.1 HX1.out).1).trans HX1.out
            have HX2 := Lib.hid hx
            have k0 : w2.cell? ⟨w.heap.size, 0, none⟩ = some (.int .i64 3) := by simp [World.cell?, hx]
            have k1 : w2.cell? ⟨w.heap.size, 1, none⟩ = some (.slice a1 0 c1) := by simp [World.cell?, hx]
            have k2 : w2.cell? ⟨w.heap.size, 2, none⟩ = some (.slice a2 n2 c2) := by simp [World.cell?, hx]
            have k3 : w2.cell? ⟨w.heap.size, 3, none⟩ = some (.string nm) := by simp [World.cell?, hx]
            have k4 : w2.cell? ⟨w.heap.size, 4, none⟩ = some (.int .i64 cmp) := by simp [World.cell?, hx]
            have k5 : w2.cell? ⟨w.heap.size, 5, none⟩ = some (.string txt) := by simp [World.cell?, hx]
            have k6 : w2.cell? ⟨w.heap.size, 6, none⟩ = some (.int .i64 num) := by simp [World.cell?, hx]
            clear hx
            clear hN1 b2
            by_cases hk : cmp = 0
            · subst hk
              cases ht : txt.toList.isEmpty
              · rw [ht] at HR
                go_wp2_with fail
                go_ret
                exact ⟨by rw [← HR.out]; first | rfl | (simp; done) | (simp; omega), HB2.out⟩
              · rw [ht] at HR
                go_wp2_with fail
                go_ret
                exact ⟨by rw [← HR.out]; first | rfl | (simp; done) | (simp; omega), HB2.out⟩
            by_cases hk : cmp = 1
            · subst hk
              have hX1 := HXT.out w2 HB2.out
              cases t
              · go_wp2_with fail
                refine hX1.mono ?_
                rintro e w9 ⟨rfl, b9⟩
                have HB9 := Lib.hid (HB2.out.trans (b9.mono HB2.out.size))
                clear k0 k1 k2 k3 k4 k5 k6
                have hx := (b9.block _ (Array.getElem?_eq_some_iff.1 HX2.out).1).trans HX2.out
                have HX9 := Lib.hid hx
                have k0 : w9.cell? ⟨w.heap.size, 0, none⟩ = some (.int .i64 3) := by simp [World.cell?, hx]
                have k1 : w9.cell? ⟨w.heap.size, 1, none⟩ = some (.slice a1 0 c1) := by simp [World.cell?, hx]
                have k2 : w9.cell? ⟨w.heap.size, 2, none⟩ = some (.slice a2 n2 c2) := by simp [World.cell?, hx]
                have k3 : w9.cell? ⟨w.heap.size, 3, none⟩ = some (.string nm) := by simp [World.cell?, hx]
                have k4 : w9.cell? ⟨w.heap.size, 4, none⟩ = some (.int .i64 1) := by simp [World.cell?, hx]
                have k5 : w9.cell? ⟨w.heap.size, 5, none⟩ = some (.string txt) := by simp [World.cell?, hx]
                have k6 : w9.cell? ⟨w.heap.size, 6, none⟩ = some (.int .i64 num) := by simp [World.cell?, hx]
                clear hx
                clear hX1 b9
                go_wp2_with fail
                go_ret
                exact ⟨by rw [← HR.out]; first | rfl | (simp; done) | (simp; omega), HB9.out⟩
              · go_wp2_with fail
                refine hX1.mono ?_
                rintro e w9 ⟨rfl, b9⟩
                have HB9 := Lib.hid (HB2.out.trans (b9.mono HB2.out.size))
                clear k0 k1 k2 k3 k4 k5 k6
                have hx := (b9.block _ (Array.getElem?_eq_some_iff.1 HX2.out).1).trans HX2.out
                have HX9 := Lib.hid hx
                have k0 : w9.cell? ⟨w.heap.size, 0, none⟩ = some (.int .i64 3) := by simp [World.cell?, hx]
                have k1 : w9.cell? ⟨w.heap.size, 1, none⟩ = some (.slice a1 0 c1) := by simp [World.cell?, hx]
                have k2 : w9.cell? ⟨w.heap.size, 2, none⟩ = some (.slice a2 n2 c2) := by simp [World.cell?, hx]
                have k3 : w9.cell? ⟨w.heap.size, 3, none⟩ = some (.string nm) := by simp [World.cell?, hx]
                have k4 : w9.cell? ⟨w.heap.size, 4, none⟩ = some (.int .i64 1) := by simp [World.cell?, hx]
                have k5 : w9.cell? ⟨w.heap.size, 5, none⟩ = some (.string txt) := by simp [World.cell?, hx]
                have k6 : w9.cell? ⟨w.heap.size, 6, none⟩ = some (.int .i64 num) := by simp [World.cell?, hx]
                clear hx
                clear hX1 b9
                go_wp2_with fail
                go_ret
                exact ⟨by rw [← HR.out]; first | rfl | (simp; done) | (simp; omega), HB9.out⟩
            by_cases hk : cmp = 2
            · subst hk
              have hX1 := HXT.out w2 HB2.out
              cases t
              · go_wp2_with fail
                refine hX1.mono ?_
                rintro e w9 ⟨rfl, b9⟩
                have HB9 := Lib.hid (HB2.out.trans (b9.mono HB2.out.size))
                clear k0 k1 k2 k3 k4 k5 k6
                have hx := (b9.block _ (Array.getElem?_eq_some_iff.1 HX2.out).1).trans HX2.out
                have HX9 := Lib.hid hx
                have k0 : w9.cell? ⟨w.heap.size, 0, none⟩ = some (.int .i64 3) := by simp [World.cell?, hx]
                have k1 : w9.cell? ⟨w.heap.size, 1, none⟩ = some (.slice a1 0 c1) := by simp [World.cell?, hx]
                have k2 : w9.cell? ⟨w.heap.size, 2, none⟩ = some (.slice a2 n2 c2) := by simp [World.cell?, hx]
                have k3 : w9.cell? ⟨w.heap.size, 3, none⟩ = some (.string nm) := by simp [World.cell?, hx]
                have k4 : w9.cell? ⟨w.heap.size, 4, none⟩ = some (.int .i64 2) := by simp [World.cell?, hx]
                have k5 : w9.cell? ⟨w.heap.size, 5, none⟩ = some (.string txt) := by simp [World.cell?, hx]
                have k6 : w9.cell? ⟨w.heap.size, 6, none⟩ = some (.int .i64 num) := by simp [World.cell?, hx]
                clear hx
                clear hX1 b9
                go_wp2_with fail
                go_ret
                exact ⟨by rw [← HR.out]; first | rfl | (simp; done) | (simp; omega), HB9.out⟩
              · go_wp2_with fail
                refine hX1.mono ?_
                rintro e w9 ⟨rfl, b9⟩
                have HB9 := Lib.hid (HB2.out.trans (b9.mono HB2.out.size))
                clear k0 k1 k2 k3 k4 k5 k6
                have hx := (b9.block _ (Array.getElem?_eq_some_iff.1 HX2.out).1).trans HX2.out
                have HX9 := Lib.hid hx
                have k0 : w9.cell? ⟨w.heap.size, 0, none⟩ = some (.int .i64 3) := by simp [World.cell?, hx]
                have k1 : w9.cell? ⟨w.heap.size, 1, none⟩ = some (.slice a1 0 c1) := by simp [World.cell?, hx]
                have k2 : w9.cell? ⟨w.heap.size, 2, none⟩ = some (.slice a2 n2 c2) := by simp [World.cell?, hx]
                have k3 : w9.cell? ⟨w.heap.size, 3, none⟩ = some (.string nm) := by simp [World.cell?, hx]
                have k4 : w9.cell? ⟨w.heap.size, 4, none⟩ = some (.int .i64 2) := by simp [World.cell?, hx]
                have k5 : w9.cell? ⟨w.heap.size, 5, none⟩ = some (.string txt) := by simp [World.cell?, hx]
                have k6 : w9.cell? ⟨w.heap.size, 6, none⟩ = some (.int .i64 num) := by simp [World.cell?, hx]
                clear hx
                clear hX1 b9
                go_wp2_with fail
                go_ret
                exact ⟨by rw [← HR.out]; first | rfl | (simp; done) | (simp; omega), HB9.out⟩
            by_cases hk : cmp = 3
            · subst hk
              have hX1 := HXT.out w2 HB2.out
              cases t
              · go_wp2_with fail
                refine hX1.mono ?_
                rintro e w9 ⟨rfl, b9⟩
                have HB9 := Lib.hid (HB2.out.trans (b9.mono HB2.out.size))
                clear k0 k1 k2 k3 k4 k5 k6
                have hx := (b9.block _ (Array.getElem?_eq_some_iff.1 HX2.out).1).trans HX2.out
                have HX9 := Lib.hid hx
                have k0 : w9.cell? ⟨w.heap.size, 0, none⟩ = some (.int .i64 3) := by simp [World.cell?, hx]
                have k1 : w9.cell? ⟨w.heap.size, 1, none⟩ = some (.slice a1 0 c1) := by simp [World.cell?, hx]
                have k2 : w9.cell? ⟨w.heap.size, 2, none⟩ = some (.slice a2 n2 c2) := by simp [World.cell?, hx]
                have k3 : w9.cell? ⟨w.heap.size, 3, none⟩ = some (.string nm) := by simp [World.cell?, hx]
                have k4 : w9.cell? ⟨w.heap.size, 4, none⟩ = some (.int .i64 3) := by simp [World.cell?, hx]
                have k5 : w9.cell? ⟨w.heap.size, 5, none⟩ = some (.string txt) := by simp [World.cell?, hx]
                have k6 : w9.cell? ⟨w.heap.size, 6, none⟩ = some (.int .i64 num) := by simp [World.cell?, hx]
                clear hx
                clear hX1 b9
                go_wp2_with fail
                go_ret
                exact ⟨by rw [← HR.out]; first | rfl | (simp; done) | (simp; omega), HB9.out⟩
              · go_wp2_with fail
                refine hX1.mono ?_
                rintro e w9 ⟨rfl, b9⟩
                have HB9 := Lib.hid (HB2.out.trans (b9.mono HB2.out.size))
                clear k0 k1 k2 k3 k4 k5 k6
                have hx := (b9.block _ (Array.getElem?_eq_some_iff.1 HX2.out).1).trans HX2.out
                have HX9 := Lib.hid hx
                have k0 : w9.cell? ⟨w.heap.size, 0, none⟩ = some (.int .i64 3) := by simp [World.cell?, hx]
                have k1 : w9.cell? ⟨w.heap.size, 1, none⟩ = some (.slice a1 0 c1) := by simp [World.cell?, hx]
                have k2 : w9.cell? ⟨w.heap.size, 2, none⟩ = some (.slice a2 n2 c2) := by simp [World.cell?, hx]
                have k3 : w9.cell? ⟨w.heap.size, 3, none⟩ = some (.string nm) := by simp [World.cell?, hx]
                have k4 : w9.cell? ⟨w.heap.size, 4, none⟩ = some (.int .i64 3) := by simp [World.cell?, hx]
                have k5 : w9.cell? ⟨w.heap.size, 5, none⟩ = some (.string txt) := by simp [World.cell?, hx]
                have k6 : w9.cell? ⟨w.heap.size, 6, none⟩ = some (.int .i64 num) := by simp [World.cell?, hx]
                clear hx
                clear hX1 b9
                go_wp2_with fail
                go_ret
                exact ⟨by rw [← HR.out]; first | rfl | (simp; done) | (simp; omega), HB9.out⟩
            by_cases hk : cmp = 4
            · subst hk
              have hX1 := HXT.out w2 HB2.out
              cases t
              · go_wp2_with fail
                refine hX1.mono ?_
                rintro e w9 ⟨rfl, b9⟩
                have HB9 := Lib.hid (HB2.out.trans (b9.mono HB2.out.size))
                clear k0 k1 k2 k3 k4 k5 k6
                have hx := (b9.block _ (Array.getElem?_eq_some_iff.1 HX2.out).1).trans HX2.out
                have HX9 := Lib.hid hx
                have k0 : w9.cell? ⟨w.heap.size, 0, none⟩ = some (.int .i64 3) := by simp [World.cell?, hx]
                have k1 : w9.cell? ⟨w.heap.size, 1, none⟩ = some (.slice a1 0 c1) := by simp [World.cell?, hx]
                have k2 : w9.cell? ⟨w.heap.size, 2, none⟩ = some (.slice a2 n2 c2) := by simp [World.cell?, hx]
                have k3 : w9.cell? ⟨w.heap.size, 3, none⟩ = some (.string nm) := by simp [World.cell?, hx]
                have k4 : w9.cell? ⟨w.heap.size, 4, none⟩ = some (.int .i64 4) := by simp [World.cell?, hx]
                have k5 : w9.cell? ⟨w.heap.size, 5, none⟩ = some (.string txt) := by simp [World.cell?, hx]
                have k6 : w9.cell? ⟨w.heap.size, 6, none⟩ = some (.int .i64 num) := by simp [World.cell?, hx]
                clear hx
                clear hX1 b9
                go_wp2_with fail
                go_ret
                exact ⟨by rw [← HR.out]; first | rfl | (simp; done) | (simp; omega), HB9.out⟩
              · go_wp2_with fail
                refine hX1.mono ?_
                rintro e w9 ⟨rfl, b9⟩
                have HB9 := Lib.hid (HB2.out.trans (b9.mono HB2.out.size))
                clear k0 k1 k2 k3 k4 k5 k6
                have hx := (b9.block _ (Array.getElem?_eq_some_iff.1 HX2.out).1).trans HX2.out
                have HX9 := Lib.hid hx
                have k0 : w9.cell? ⟨w.heap.size, 0, none⟩ = some (.int .i64 3) := by simp [World.cell?, hx]
                have k1 : w9.cell? ⟨w.heap.size, 1, none⟩ = some (.slice a1 0 c1) := by simp [World.cell?, hx]
                have k2 : w9.cell? ⟨w.heap.size, 2, none⟩ = some (.slice a2 n2 c2) := by simp [World.cell?, hx]
                have k3 : w9.cell? ⟨w.heap.size, 3, none⟩ = some (.string nm) := by simp [World.cell?, hx]
                have k4 : w9.cell? ⟨w.heap.size, 4, none⟩ = some (.int .i64 4) := by simp [World.cell?, hx]
                have k5 : w9.cell? ⟨w.heap.size, 5, none⟩ = some (.string txt) := by simp [World.cell?, hx]
                have k6 : w9.cell? ⟨w.heap.size, 6, none⟩ = some (.int .i64 num) := by simp [World.cell?, hx]
                clear hx
                clear hX1 b9
                go_wp2_with fail
                go_ret
                exact ⟨by rw [← HR.out]; first | rfl | (simp; done) | (simp; omega), HB9.out⟩
            by_cases hk : cmp = 5
            · subst hk
              have hX1 := HXT.out w2 HB2.out
              cases t
              · go_wp2_with fail
                refine hX1.mono ?_
                rintro e w9 ⟨rfl, b9⟩
                have HB9 := Lib.hid (HB2.out.trans (b9.mono HB2.out.size))
                clear k0 k1 k2 k3 k4 k5 k6
                have hx := (b9.block _ (Array.getElem?_eq_some_iff.1 HX2.out).1).trans HX2.out
                have HX9 := Lib.hid hx
                have k0 : w9.cell? ⟨w.heap.size, 0, none⟩ = some (.int .i64 3) := by simp [World.cell?, hx]
                have k1 : w9.cell? ⟨w.heap.size, 1, none⟩ = some (.slice a1 0 c1) := by simp [World.cell?, hx]
                have k2 : w9.cell? ⟨w.heap.size, 2, none⟩ = some (.slice a2 n2 c2) := by simp [World.cell?, hx]
                have k3 : w9.cell? ⟨w.heap.size, 3, none⟩ = some (.string nm) := by simp [World.cell?, hx]
                have k4 : w9.cell? ⟨w.heap.size, 4, none⟩ = some (.int .i64 5) := by simp [World.cell?, hx]
                have k5 : w9.cell? ⟨w.heap.size, 5, none⟩ = some (.string txt) := by simp [World.cell?, hx]
                have k6 : w9.cell? ⟨w.heap.size, 6, none⟩ = some (.int .i64 num) := by simp [World.cell?, hx]
                clear hx
                clear hX1 b9
                go_wp2_with fail
                go_ret
                exact ⟨by rw [← HR.out]; first | rfl | (simp; done) | (simp; omega), HB9.out⟩
              · go_wp2_with fail
                refine hX1.mono ?_
                rintro e w9 ⟨rfl, b9⟩
                have HB9 := Lib.hid (HB2.out.trans (b9.mono HB2.out.size))
                clear k0 k1 k2 k3 k4 k5 k6
                have hx := (b9.block _ (Array.getElem?_eq_some_iff.1 HX2.out).1).trans HX2.out
                have HX9 := Lib.hid hx
                have k0 : w9.cell? ⟨w.heap.size, 0, none⟩ = some (.int .i64 3) := by simp [World.cell?, hx]
                have k1 : w9.cell? ⟨w.heap.size, 1, none⟩ = some (.slice a1 0 c1) := by simp [World.cell?, hx]
                have k2 : w9.cell? ⟨w.heap.size, 2, none⟩ = some (.slice a2 n2 c2) := by simp [World.cell?, hx]
                have k3 : w9.cell? ⟨w.heap.size, 3, none⟩ = some (.string nm) := by simp [World.cell?, hx]
                have k4 : w9.cell? ⟨w.heap.size, 4, none⟩ = some (.int .i64 5) := by simp [World.cell?, hx]
                have k5 : w9.cell? ⟨w.heap.size, 5, none⟩ = some (.string txt) := by simp [World.cell?, hx]
                have k6 : w9.cell? ⟨w.heap.size, 6, none⟩ = some (.int .i64 num) := by simp [World.cell?, hx]
                clear hx
                clear hX1 b9
                go_wp2_with fail
                go_ret
                exact ⟨by rw [← HR.out]; first | rfl | (simp; done) | (simp; omega), HB9.out⟩
            by_cases hk : cmp = 6
            · subst hk
              cases ht : txt.toList.isEmpty
              · rw [ht] at HR
                go_wp2_with fail
                go_ret
                exact ⟨by rw [← HR.out]; first | rfl | (simp; done) | (simp; omega), HB2.out⟩
              · rw [ht] at HR
                by_cases hu : 0 ≤ num
                · go_wp2_with fail
                  go_ret
                  exact ⟨by rw [← HR.out]; first | rfl | (simp [hu]; done) | (simp [hu]; omega), HB2.out⟩
                · go_wp2_with fail
                  go_ret
                  exact ⟨by rw [← HR.out]; first | rfl | (simp; done) | (simp; omega), HB2.out⟩
            by_cases hk : cmp = 7
            · subst hk
              cases ht : txt.toList.isEmpty
              · rw [ht] at HR
                go_wp2_with fail
                go_ret
                exact ⟨by rw [← HR.out]; first | rfl | (simp; done) | (simp; omega), HB2.out⟩
              · rw [ht] at HR
                by_cases hu : 0 ≤ num
                · go_wp2_with fail
                  go_ret
                  exact ⟨by rw [← HR.out]; first | rfl | (simp [hu]; done) | (simp [hu]; omega), HB2.out⟩
                · go_wp2_with fail
                  go_ret
                  exact ⟨by rw [← HR.out]; first | rfl | (simp; done) | (simp; omega), HB2.out⟩
            by_cases hk : cmp = 8
            · subst hk
              cases ht : txt.toList.isEmpty
              · rw [ht] at HR
                go_wp2_with fail
                go_ret
                exact ⟨by rw [← HR.out]; first | rfl | (simp; done) | (simp; omega), HB2.out⟩
              · rw [ht] at HR
                by_cases hu : 0 ≤ num
                · go_wp2_with fail
                  go_ret
                  exact ⟨by rw [← HR.out]; first | rfl | (simp [hu]; done) | (simp [hu]; omega), HB2.out⟩
                · go_wp2_with fail
                  go_ret
                  exact ⟨by rw [← HR.out]; first | rfl | (simp; done) | (simp; omega), HB2.out⟩
            have e0 : (cmp == 0) = false := beq_eq_false_iff_ne.2 (by omega)
            have e1 : (cmp == 1) = false := beq_eq_false_iff_ne.2 (by omega)
            have e2 : (cmp == 2) = false := beq_eq_false_iff_ne.2 (by omega)
            have e3 : (cmp == 3) = false := beq_eq_false_iff_ne.2 (by omega)
            have e4 : (cmp == 4) = false := beq_eq_false_iff_ne.2 (by omega)
            have e5 : (cmp == 5) = false := beq_eq_false_iff_ne.2 (by omega)
            have e6 : (cmp == 6) = false := beq_eq_false_iff_ne.2 (by omega)
            have e7 : (cmp == 7) = false := beq_eq_false_iff_ne.2 (by omega)
            have e8 : (cmp == 8) = false := beq_eq_false_iff_ne.2 (by omega)
            have f1 : ¬ (1 ≤ cmp ∧ cmp ≤ 5) := by omega
            have f2 : ¬ (6 ≤ cmp ∧ cmp ≤ 8) := by omega
            have f0 : ¬ cmp = 0 := by omega
            have HR2 := Lib.hid (show false = R by rw [← HR.out]; simp [f0, f1, f2])
            clear f0 f1 f2
            go_wp2_with fail
            go_ret
            exact ⟨by rw [← HR2.out]; rfl, HB2.out⟩
        · rw [hn] at HR
          by_cases hk : cmp = 0
          · subst hk
            cases ht : txt.toList.isEmpty
            · rw [ht] at HR
              go_wp2_with fail
              go_ret
              exact ⟨by rw [← HR.out]; first | rfl | (simp; done) | (simp; omega), HB1.out⟩
            · rw [ht] at HR
              go_wp2_with fail
              go_ret
              exact ⟨by rw [← HR.out]; first | rfl | (simp; done) | (simp; omega), HB1.out⟩
          by_cases hk : cmp = 1
          · subst hk
            have hX1 := HXT.out w1 HB1.out
            cases t
            · go_wp2_with fail
              refine hX1.mono ?_
              rintro e w9 ⟨rfl, b9⟩
              have HB9 := Lib.hid (HB1.out.trans (b9.mono HB1.out.size))
              clear k0 k1 k2 k3 k4 k5 k6
              have hx := (b9.block _ (Array.getElem?_eq_some_iff.1 HX1.out).1).trans HX1.out
              have HX9 := Lib.hid hx
              have k0 : w9.cell? ⟨w.heap.size, 0, none⟩ = some (.int .i64 3) := by simp [World.cell?, hx]
              have k1 : w9.cell? ⟨w.heap.size, 1, none⟩ = some (.slice a1 0 c1) := by simp [World.cell?, hx]
              have k2 : w9.cell? ⟨w.heap.size, 2, none⟩ = some (.slice a2 n2 c2) := by simp [World.cell?, hx]
              have k3 : w9.cell? ⟨w.heap.size, 3, none⟩ = some (.string nm) := by simp [World.cell?, hx]
              have k4 : w9.cell? ⟨w.heap.size, 4, none⟩ = some (.int .i64 1) := by simp [World.cell?, hx]
              have k5 : w9.cell? ⟨w.heap.size, 5, none⟩ = some (.string txt) := by simp [World.cell?, hx]
              have k6 : w9.cell? ⟨w.heap.size, 6, none⟩ = some (.int .i64 num) := by simp [World.cell?, hx]
              clear hx
              clear hX1 b9
              go_wp2_with fail
              go_ret
              exact ⟨by rw [← HR.out]; first | rfl | (simp; done) | (simp; omega), HB9.out⟩
            · go_wp2_with fail
              refine hX1.mono ?_
              rintro e w9 ⟨rfl, b9⟩
              have HB9 := Lib.hid (HB1.out.trans (b9.mono HB1.out.size))
              clear k0 k1 k2 k3 k4 k5 k6
              have hx := (b9.block _ (Array.getElem?_eq_some_iff.1 HX1.out).1).trans HX1.out
              have HX9 := Lib.hid hx
              have k0 : w9.cell? ⟨w.heap.size, 0, none⟩ = some (.int .i64 3) := by simp [World.cell?, hx]
              have k1 : w9.cell? ⟨w.heap.size, 1, none⟩ = some (.slice a1 0 c1) := by simp [World.cell?, hx]
              have k2 : w9.cell? ⟨w.heap.size, 2, none⟩ = some (.slice a2 n2 c2) := by simp [World.cell?, hx]
              have k3 : w9.cell? ⟨w.heap.size, 3, none⟩ = some (.string nm) := by simp [World.cell?, hx]
              have k4 : w9.cell? ⟨w.heap.size, 4, none⟩ = some (.int .i64 1) := by simp [World.cell?, hx]
              have k5 : w9.cell? ⟨w.heap.size, 5, none⟩ = some (.string txt) := by simp [World.cell?, hx]
              have k6 : w9.cell? ⟨w.heap.size, 6, none⟩ = some (.int .i64 num) := by simp [World.cell?, hx]
              clear hx
              clear hX1 b9
              go_wp2_with fail
              go_ret
              exact ⟨by rw [← HR.out]; first | rfl | (simp; done) | (simp; omega), HB9.out⟩
          by_cases hk : cmp = 2
          · subst hk
            have hX1 := HXT.out w1 HB1.out
            cases t
            · go_wp2_with fail
              refine hX1.mono ?_
              rintro e w9 ⟨rfl, b9⟩
              have HB9 := Lib.hid (HB1.out.trans (b9.mono HB1.out.size))
              clear k0 k1 k2 k3 k4 k5 k6
              have hx := (b9.block _ (Array.getElem?_eq_some_iff.1 HX1.out).1).trans HX1.out
              have HX9 := Lib.hid hx
              have k0 : w9.cell? ⟨w.heap.size, 0, none⟩ = some (.int .i64 3) := by simp [World.cell?, hx]
              have k1 : w9.cell? ⟨w.heap.size, 1, none⟩ = some (.slice a1 0 c1) := by simp [World.cell?, hx]
              have k2 : w9.cell? ⟨w.heap.size, 2, none⟩ = some (.slice a2 n2 c2) := by simp [World.cell?, hx]
              have k3 : w9.cell? ⟨w.heap.size, 3, none⟩ = some (.string nm) := by simp [World.cell?, hx]
              have k4 : w9.cell? ⟨w.heap.size, 4, none⟩ = some (.int .i64 2) := by simp [World.cell?, hx]
              have k5 : w9.cell? ⟨w.heap.size, 5, none⟩ = some (.string txt) := by simp [World.cell?, hx]
              have k6 : w9.cell? ⟨w.heap.size, 6, none⟩ = some (.int .i64 num) := by simp [World.cell?, hx]
              clear hx
              clear hX1 b9
              go_wp2_with fail
              go_ret
              exact ⟨by rw [← HR.out]; first | rfl | (simp; done) | (simp; omega), HB9.out⟩
            · go_wp2_with fail
              refine hX1.mono ?_
              rintro e w9 ⟨rfl, b9⟩
              have HB9 := Lib.hid (HB1.out.trans (b9.mono HB1.out.size))
              clear k0 k1 k2 k3 k4 k5 k6
              have hx := (b9.block _ (Array.getElem?_eq_some_iff.1 HX1.out).1).trans HX1.out
              have HX9 := Lib.hid hx
              have k0 : w9.cell? ⟨w.heap.size, 0, none⟩ = some (.int .i64 3) := by simp [World.cell?, hx]
              have k1 : w9.cell? ⟨w.heap.size, 1, none⟩ = some (.slice a1 0 c1) := by simp [World.cell?, hx]
              have k2 : w9.cell? ⟨w.heap.size, 2, none⟩ = some (.slice a2 n2 c2) := by simp [World.cell?, hx]
              have k3 : w9.cell? ⟨w.heap.size, 3, none⟩ = some (.string nm) := by simp [World.cell?, hx]
              have k4 : w9.cell? ⟨w.heap.size, 4, none⟩ = some (.int .i64 2) := by simp [World.cell?, hx]
              have k5 : w9.cell? ⟨w.heap.size, 5, none⟩ = some (.string txt) := by simp [World.cell?, hx]
              have k6 : w9.cell? ⟨w.heap.size, 6, none⟩ = some (.int .i64 num) := by simp [World.cell?, hx]
              clear hx
              clear hX1 b9
              go_wp2_with fail
              go_ret
              exact ⟨by rw [← HR.out]; first | rfl | (simp; done) | (simp; omega), HB9.out⟩
          by_cases hk : cmp = 3
          · subst hk
            have hX1 := HXT.out w1 HB1.out
            cases t
            · go_wp2_with fail
              refine hX1.mono ?_
              rintro e w9 ⟨rfl, b9⟩
              have HB9 := Lib.hid (HB1.out.trans (b9.mono HB1.out.size))
              clear k0 k1 k2 k3 k4 k5 k6
              have hx := (b9.block _ (Array.getElem?_eq_some_iff.1 HX1.out).1).trans HX1.out
              have HX9 := Lib.hid hx
              have k0 : w9.cell? ⟨w.heap.size, 0, none⟩ = some (.int .i64 3) := by simp [World.cell?, hx]
              have k1 : w9.cell? ⟨w.heap.size, 1, none⟩ = some (.slice a1 0 c1) := by simp [World.cell?, hx]
              have k2 : w9.cell? ⟨w.heap.size, 2, none⟩ = some (.slice a2 n2 c2) := by simp [World.cell?, hx]
              have k3 : w9.cell? ⟨w.heap.size, 3, none⟩ = some (.string nm) := by simp [World.cell?, hx]
              have k4 : w9.cell? ⟨w.heap.size, 4, none⟩ = some (.int .i64 3) := by simp [World.cell?, hx]
              have k5 : w9.cell? ⟨w.heap.size, 5, none⟩ = some (.string txt) := by simp [World.cell?, hx]
              have k6 : w9.cell? ⟨w.heap.size, 6, none⟩ = some (.int .i64 num) := by simp [World.cell?, hx]
              clear hx
              clear hX1 b9
              go_wp2_with fail
              go_ret
              exact ⟨by rw [← HR.out]; first | rfl | (simp; done) | (simp; omega), HB9.out⟩
            · go_wp2_with fail
              refine hX1.mono ?_
              rintro e w9 ⟨rfl, b9⟩
              have HB9 := Lib.hid (HB1.out.trans (b9.mono HB1.out.size))
              clear k0 k1 k2 k3 k4 k5 k6
              have hx := (b9.block _ (Array.getElem?_eq_some_iff.1 HX1.out).1).trans HX1.out
              have HX9 := Lib.hid hx
              have k0 : w9.cell? ⟨w.heap.size, 0, none⟩ = some (.int .i64 3) := by simp [World.cell?, hx]
              have k1 : w9.cell? ⟨w.heap.size, 1, none⟩ = some (.slice a1 0 c1) := by simp [World.cell?, hx]
              have k2 : w9.cell? ⟨w.heap.size, 2, none⟩ = some (.slice a2 n2 c2) := by simp [World.cell?, hx]
              have k3 : w9.cell? ⟨w.heap.size, 3, none⟩ = some (.string nm) := by simp [World.cell?, hx]
              have k4 : w9.cell? ⟨w.heap.size, 4, none⟩ = some (.int .i64 3) := by simp [World.cell?, hx]
              have k5 : w9.cell? ⟨w.heap.size, 5, none⟩ = some (.string txt) := by simp [World.cell?, hx]
              have k6 : w9.cell? ⟨w.heap.size, 6, none⟩ = some (.int .i64 num) := by simp [World.cell?, hx]
              clear hx
              clear hX1 b9
              go_wp2_with fail
              go_ret
              exact ⟨by rw [← HR.out]; first | rfl | (simp; done) | (simp; omega), HB9.out⟩
          by_cases hk : cmp = 4
          · subst hk
            have hX1 := HXT.out w1 HB1.out
            cases t
            · go_wp2_with fail
              refine hX1.mono ?_
              rintro e w9 ⟨rfl, b9⟩
              have HB9 := Lib.hid (HB1.out.trans (b9.mono HB1.out.size))
              clear k0 k1 k2 k3 k4 k5 k6
              have hx := (b9.block _ (Array.getElem?_eq_some_iff.1 HX1.out).1).trans HX1.out
              have HX9 := Lib.hid hx
              have k0 : w9.cell? ⟨w.heap.size, 0, none⟩ = some (.int .i64 3) := by simp [World.cell?, hx]
              have k1 : w9.cell? ⟨w.heap.size, 1, none⟩ = some (.slice a1 0 c1) := by simp [World.cell?, hx]
              have k2 : w9.cell? ⟨w.heap.size, 2, none⟩ = some (.slice a2 n2 c2) := by simp [World.cell?, hx]
              have k3 : w9.cell? ⟨w.heap.size, 3, none⟩ = some (.string nm) := by simp [World.cell?, hx]
              have k4 : w9.cell? ⟨w.heap.size, 4, none⟩ = some (.int .i64 4) := by simp [World.cell?, hx]
              have k5 : w9.cell? ⟨w.heap.size, 5, none⟩ = some (.string txt) := by simp [World.cell?, hx]
              have k6 : w9.cell? ⟨w.heap.size, 6, none⟩ = some (.int .i64 num) := by simp [World.cell?, hx]
              clear hx
              clear hX1 b9
              go_wp2_with fail
              go_ret
              exact ⟨by rw [← HR.out]; first | rfl | (simp; done) | (simp; omega), HB9.out⟩
            · go_wp2_with fail
              refine hX1.mono ?_
              rintro e w9 ⟨rfl, b9⟩
              have HB9 := Lib.hid (HB1.out.trans (b9.mono HB1.out.size))
              clear k0 k1 k2 k3 k4 k5 k6
              have hx := (b9.block _ (Array.getElem?_eq_some_iff.1 HX1.out).1).trans HX1.out
              have HX9 := Lib.hid hx
              have k0 : w9.cell? ⟨w.heap.size, 0, none⟩ = some (.int .i64 3) := by simp [World.cell?, hx]
              have k1 : w9.cell? ⟨w.heap.size, 1, none⟩ = some (.slice a1 0 c1) := by simp [World.cell?, hx]
              have k2 : w9.cell? ⟨w.heap.size, 2, none⟩ = some (.slice a2 n2 c2) := by simp [World.cell?, hx]
              have k3 : w9.cell? ⟨w.heap.size, 3, none⟩ = some (.string nm) := by simp [World.cell?, hx]
              have k4 : w9.cell? ⟨w.heap.size, 4, none⟩ = some (.int .i64 4) := by simp [World.cell?, hx]
              have k5 : w9.cell? ⟨w.heap.size, 5, none⟩ = some (.string txt) := by simp [World.cell?, hx]
              have k6 : w9.cell? ⟨w.heap.size, 6, none⟩ = some (.int .i64 num) := by simp [World.cell?, hx]
              clear hx
              clear hX1 b9
              go_wp2_with fail
              go_ret
              exact ⟨by rw [← HR.out]; first | rfl | (simp; done) | (simp; omega), HB9.out⟩
          by_cases hk : cmp = 5
          · subst hk
            have hX1 := HXT.out w1 HB1.out
            cases t
            · go_wp2_with fail
              refine hX1.mono ?_
              rintro e w9 ⟨rfl, b9⟩
              have HB9 := Lib.hid (HB1.out.trans (b9.mono HB1.out.size))
              clear k0 k1 k2 k3 k4 k5 k6
              have hx := (b9.block _ (Array.getElem?_eq_some_iff.1 HX1.out).1).trans HX1.out
              have HX9 := Lib.hid hx
              have k0 : w9.cell? ⟨w.heap.size, 0, none⟩ = some (.int .i64 3) := by simp [World.cell?, hx]
              have k1 : w9.cell? ⟨w.heap.size, 1, none⟩ = some (.slice a1 0 c1) := by simp [World.cell?, hx]
              have k2 : w9.cell? ⟨w.heap.size, 2, none⟩ = some (.slice a2 n2 c2) := by simp [World.cell?, hx]
              have k3 : w9.cell? ⟨w.heap.size, 3, none⟩ = some (.string nm) := by simp [World.cell?, hx]
              have k4 : w9.cell? ⟨w.heap.size, 4, none⟩ = some (.int .i64 5) := by simp [World.cell?, hx]
              have k5 : w9.cell? ⟨w.heap.size, 5, none⟩ = some (.string txt) := by simp [World.cell?, hx]
              have k6 : w9.cell? ⟨w.heap.size, 6, none⟩ = some (.int .i64 num) := by simp [World.cell?, hx]
              clear hx
              clear hX1 b9
              go_wp2_with fail
              go_ret
              exact ⟨by rw [← HR.out]; first | rfl | (simp; done) | (simp; omega), HB9.out⟩
            · go_wp2_with fail
              refine hX1.mono ?_
              rintro e w9 ⟨rfl, b9⟩
              have HB9 := Lib.hid (HB1.out.trans (b9.mono HB1.out.size))
              clear k0 k1 k2 k3 k4 k5 k6
              have hx := (b9.block _ (Array.getElem?_eq_some_iff.1 HX1.out).1).trans HX1.out
              have HX9 := Lib.hid hx
              have k0 : w9.cell? ⟨w.heap.size, 0, none⟩ = some (.int .i64 3) := by simp [World.cell?, hx]
              have k1 : w9.cell? ⟨w.heap.size, 1, none⟩ = some (.slice a1 0 c1) := by simp [World.cell?, hx]
              have k2 : w9.cell? ⟨w.heap.size, 2, none⟩ = some (.slice a2 n2 c2) := by simp [World.cell?, hx]
              have k3 : w9.cell? ⟨w.heap.size, 3, none⟩ = some (.string nm) := by simp [World.cell?, hx]
              have k4 : w9.cell? ⟨w.heap.size, 4, none⟩ = some (.int .i64 5) := by simp [World.cell?, hx]
              have k5 : w9.cell? ⟨w.heap.size, 5, none⟩ = some (.string txt) := by simp [World.cell?, hx]
              have k6 : w9.cell? ⟨w.heap.size, 6, none⟩ = some (.int .i64 num) := by simp [World.cell?, hx]
              clear hx
              clear hX1 b9
              go_wp2_with fail
              go_ret
              exact ⟨by rw [← HR.out]; first | rfl | (simp; done) | (simp; omega), HB9.out⟩
          by_cases hk : cmp = 6
          · subst hk
            cases ht : txt.toList.isEmpty
            · rw [ht] at HR
              go_wp2_with fail
              go_ret
              exact ⟨by rw [← HR.out]; first | rfl | (simp; done) | (simp; omega), HB1.out⟩
            · rw [ht] at HR
              by_cases hu : 0 ≤ num
              · go_wp2_with fail
                go_ret
                exact ⟨by rw [← HR.out]; first | rfl | (simp [hu]; done) | (simp [hu]; omega), HB1.out⟩
              · go_wp2_with fail
                go_ret
                exact ⟨by rw [← HR.out]; first | rfl | (simp; done) | (simp; omega), HB1.out⟩
          by_cases hk : cmp = 7
          · subst hk
            cases ht : txt.toList.isEmpty
            · rw [ht] at HR
              go_wp2_with fail
              go_ret
              exact ⟨by rw [← HR.out]; first | rfl | (simp; done) | (simp; omega), HB1.out⟩
            · rw [ht] at HR
              by_cases hu : 0 ≤ num
              · go_wp2_with fail
                go_ret
                exact ⟨by rw [← HR.out]; first | rfl | (simp [hu]; done) | (simp [hu]; omega), HB1.out⟩
              · go_wp2_with fail
                go_ret
                exact ⟨by rw [← HR.out]; first | rfl | (simp; done) | (simp; omega), HB1.out⟩
          by_cases hk : cmp = 8
          · subst hk
            cases ht : txt.toList.isEmpty
            · rw [ht] at HR
              go_wp2_with fail
              go_ret
              exact ⟨by rw [← HR.out]; first | rfl | (simp; done) | (simp; omega), HB1.out⟩
            · rw [ht] at HR
              by_cases hu : 0 ≤ num
              · go_wp2_with fail
                go_ret
                exact ⟨by rw [← HR.out]; first | rfl | (simp [hu]; done) | (simp [hu]; omega), HB1.out⟩
              · go_wp2_with fail
                go_ret
                exact ⟨by rw [← HR.out]; first | rfl | (simp; done) | (simp; omega), HB1.out⟩
          have e0 : (cmp == 0) = false := beq_eq_false_iff_ne.2 (by omega)
          have e1 : (cmp == 1) = false := beq_eq_false_iff_ne.2 (by omega)
          have e2 : (cmp == 2) = false := beq_eq_false_iff_ne.2 (by omega)
          have e3 : (cmp == 3) = false := beq_eq_false_iff_ne.2 (by omega)
          have e4 : (cmp == 4) = false := beq_eq_false_iff_ne.2 (by omega)
          have e5 : (cmp == 5) = false := beq_eq_false_iff_ne.2 (by omega)
          have e6 : (cmp == 6) = false := beq_eq_false_iff_ne.2 (by omega)
          have e7 : (cmp == 7) = false := beq_eq_false_iff_ne.2 (by omega)
          have e8 : (cmp == 8) = false := beq_eq_false_iff_ne.2 (by omega)
          have f1 : ¬ (1 ≤ cmp ∧ cmp ≤ 5) := by omega
          have f2 : ¬ (6 ≤ cmp ∧ cmp ≤ 8) := by omega
          have f0 : ¬ cmp = 0 := by omega
          have HR2 := Lib.hid (show false = R by rw [← HR.out]; simp [f0, f1, f2])
          clear f0 f1 f2
          go_wp2_with fail
          go_ret
          exact ⟨by rw [← HR2.out]; rfl, HB1.out⟩
    · have hz2 : 0 < (n1 : Int) := by omega
      have HR2 := Lib.hid (show false = R by rw [← HR.out]; simp [hz])
      clear hz HP HN HXT HC HR
      go_enter Tryd.func25, Tryd.ntmps25
      go_wp2_with fail
      go_ret
      exact ⟨by rw [← HR2.out]; rfl, HB.out⟩
  · have e3 : (op == 3) = false := beq_eq_false_iff_ne.2 h3
    rw [if_neg h3] at HR
    clear HP HN HXT
    by_cases hz : n2 = 0
    rotate_left
    · have hz2 : 0 < (n2 : Int) := by omega
      have HR2 := Lib.hid (show false = R by rw [← HR.out]; simp [hz])
      clear hz HC HR
      go_enter Tryd.func25, Tryd.ntmps25
      go_wp2_with fail
      go_ret
      exact ⟨by rw [← HR2.out]; rfl, HB.out⟩
    subst hz
    cases hn : nm.toList.isEmpty
    · have HR2 := Lib.hid (show false = R by rw [← HR.out, hn]; simp)
      clear HC HR
      go_enter Tryd.func25, Tryd.ntmps25
      go_wp2_with fail
      go_ret
      exact ⟨by rw [← HR2.out]; rfl, HB.out⟩
    by_cases hk : cmp = 0
    rotate_left
    · have e4 : (cmp != 0) = true := by simp [hk]
      have HR2 := Lib.hid (show false = R by rw [← HR.out]; simp [hk])
      clear hk HC HR
      go_enter Tryd.func25, Tryd.ntmps25
      go_wp2_with fail
      go_ret
      exact ⟨by rw [← HR2.out]; rfl, HB.out⟩
    subst hk
    cases ht : txt.toList.isEmpty
    · have HR2 := Lib.hid (show false = R by rw [← HR.out, ht]; simp)
      clear HC HR
      go_enter Tryd.func25, Tryd.ntmps25
      go_wp2_with fail
      go_ret
      exact ⟨by rw [← HR2.out]; rfl, HB.out⟩
    by_cases hu : num = 0
    rotate_left
    · have e4 : (num != 0) = true := by simp [hu]
      have HR2 := Lib.hid (show false = R by rw [← HR.out]; simp [hu])
      clear hu HC HR
      go_enter Tryd.func25, Tryd.ntmps25
      go_wp2_with fail
      go_ret
      exact ⟨by rw [← HR2.out]; rfl, HB.out⟩
    subst hu
    have hC1 := HC.out _ HB.out
    by_cases ho : op = 0
    · subst ho
      by_cases hy : 2 ≤ n1
      · have hy2 : ¬ (n1 : Int) < 2 := by omega
        have HR2 := Lib.hid (show g = R by rw [← HR.out, hn, ht]; simp [lnB, hy])
        clear hy HR
        go_enter Tryd.func25, Tryd.ntmps25
        go_wp2_with fail
        refine hC1.mono ?_
        rintro e w1 ⟨rfl, b1⟩
        have HB1 := Lib.hid (HB.out.trans (b1.mono HB.out.size))
        clear hC1 b1
        go_wp2_with fail
        go_ret
        exact ⟨by rw [← HR2.out]; simp, HB1.out⟩
      · have hy2 : (n1 : Int) < 2 := by omega
        have HR2 := Lib.hid (show false = R by rw [← HR.out, hn, ht]; simp [lnB, hy])
        clear hy HR hC1
        go_enter Tryd.func25, Tryd.ntmps25
        go_wp2_with fail
        go_ret
        exact ⟨by rw [← HR2.out]; rfl, HB.out⟩
    by_cases ho : op = 1
    · subst ho
      by_cases hy : 2 ≤ n1
      · have hy2 : ¬ (n1 : Int) < 2 := by omega
        have HR2 := Lib.hid (show g = R by rw [← HR.out, hn, ht]; simp [lnB, hy])
        clear hy HR
        go_enter Tryd.func25, Tryd.ntmps25
        go_wp2_with fail
        refine hC1.mono ?_
        rintro e w1 ⟨rfl, b1⟩
        have HB1 := Lib.hid (HB.out.trans (b1.mono HB.out.size))
        clear hC1 b1
        go_wp2_with fail
        go_ret
        exact ⟨by rw [← HR2.out]; simp, HB1.out⟩
      · have hy2 : (n1 : Int) < 2 := by omega
        have HR2 := Lib.hid (show false = R by rw [← HR.out, hn, ht]; simp [lnB, hy])
        clear hy HR hC1
        go_enter Tryd.func25, Tryd.ntmps25
        go_wp2_with fail
        go_ret
        exact ⟨by rw [← HR2.out]; rfl, HB.out⟩
    by_cases ho : op = 2
    · subst ho
      by_cases hy : n1 = 1
      · subst hy
        have HR2 := Lib.hid (show g = R by rw [← HR.out, hn, ht]; simp [lnB])
        clear HR
        go_enter Tryd.func25, Tryd.ntmps25
        go_wp2_with fail
        refine hC1.mono ?_
        rintro e w1 ⟨rfl, b1⟩
        have HB1 := Lib.hid (HB.out.trans (b1.mono HB.out.size))
        clear hC1 b1
        go_wp2_with fail
        go_ret
        exact ⟨by rw [← HR2.out]; simp, HB1.out⟩
      · have hy2 : ((n1 : Int) != 1) = true := by simp; omega
        have HR2 := Lib.hid (show false = R by rw [← HR.out, hn, ht]; simp [lnB, hy])
        clear hy HR hC1
        go_enter Tryd.func25, Tryd.ntmps25
        go_wp2_with fail
        go_ret
        exact ⟨by rw [← HR2.out]; rfl, HB.out⟩
    have o0 : (op == 0) = false := beq_eq_false_iff_ne.2 (by omega)
    have o1 : (op == 1) = false := beq_eq_false_iff_ne.2 (by omega)
    have o2 : (op == 2) = false := beq_eq_false_iff_ne.2 (by omega)
    have HR2 := Lib.hid (show false = R by rw [← HR.out, hn, ht]; simp only [lnB]; rw [if_neg (by omega), if_neg (by omega)]; simp)
    clear HR hC1
    go_enter Tryd.func25, Tryd.ntmps25
    go_wp2_with fail
    go_ret
    exact ⟨by rw [← HR2.out]; rfl, HB.out⟩
theorem good_all : ∀ (k : Nat) (x : Ex), SizeOf.sizeOf x ≤ k → wX x ≤ 9223372036854775807 → CEx x := by
  intro k
  induction k with
  | zero => intro x hk; cases x; exact absurd hk (by simp)
  | succ k ih =>
    intro x hk hw
    cases x with
    | mk op args sts nm cmp txt num =>
    unfold wX at hw
    simp only [Ex.mk.sizeOf_spec] at hk
    refine goodExpr_calls op args sts nm cmp txt num (by omega) (by omega) (fun x hx => ?_) fun y hy => ?_
    · obtain ⟨i, hi⟩ := List.mem_iff_getElem?.1 hx
      have h1 := sizeX_mem hi
      have h2 := wX_mem hi
      exact ih x (by omega) (by omega)
    · obtain ⟨i, hi⟩ := List.mem_iff_getElem?.1 hy
      have h1 := sizeT_mem hi
      have h2 := wT_mem hi
      cases y with
      | mk ax ts nm2 wh =>
      unfold wT at h2
      simp only [St.mk.sizeOf_spec] at h1
      refine goodStep_calls ax ts nm2 wh (by omega) fun z hz => ?_
      obtain ⟨j, hj⟩ := List.mem_iff_getElem?.1 hz
      have h3 := sizeX_mem hj
      have h4 := wX_mem hj
      exact ih z (by omega) (by omega)
theorem goodPath_all (sts : List St) (a : Option Addr) (n cap : Nat) (w : World) (hF : FitTS w sts a n cap) (hT : Laid w) (hw : wTL sts ≤ 9223372036854775807) :
    Calls Tryd.prog 14 #[.agg #[.slice a n cap]] w fun e w' => e = .returned (.bool (gdP sts)) ∧ Below w.heap.size w w' :=
  goodPath_calls sts a n cap w hF hT fun y hy => by
    obtain ⟨i, hi⟩ := List.mem_iff_getElem?.1 hy
    have h2 := wT_mem hi
    cases y with
    | mk ax ts nm2 wh =>
    unfold wT at h2
    refine goodStep_calls ax ts nm2 wh (by omega) fun z hz => ?_
    obtain ⟨j, hj⟩ := List.mem_iff_getElem?.1 hz
    have h4 := wX_mem hj
    exact good_all _ z (Nat.le_refl _) (by omega)
end Go.Proofs.YtghepjbfhjkinaaDoor
