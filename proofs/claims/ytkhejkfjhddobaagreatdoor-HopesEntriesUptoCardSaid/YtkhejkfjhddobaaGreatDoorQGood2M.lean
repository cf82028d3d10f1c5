/- ask.goodExpr of any expression. Printed by wip/mkqgood2.py. -/
import Derived.Test.YtkhejkfjhddobaaGreatDoorQLayM
import Derived.Test.YtkhejkfjhddobaaGreatDoorQTreeM
import Derived.Deep.CutRange
import Derived.Deep.CutBlock
import Derived.BigQuiet
section
namespace Go.Proofs.YtkhejkfjhddobaaGreatDoor
open Go.RowKit Gim
set_option maxRecDepth 100000 in
set_option maxHeartbeats 16000000 in
theorem goodExpr_calls (op : Int) (args : List Ex) (sts : List St) (nm : ByteArray) (cmp : Int) (txt : ByteArray) (num : Int) (hnm : nm.size ≤ 9223372036854775807) (htx : txt.size ≤ 9223372036854775807) (hE : ∀ x ∈ args, CEx x) (hS : ∀ x ∈ sts, CSt x) : CEx (.mk op args sts nm cmp txt num) := by
  intro w op' args' sts' nm' cmp' txt' num' a1 n1 c1 a2 n2 c2 he hF1 hF2 hT
  obtain ⟨rfl, rfl, rfl, rfl, rfl, rfl, rfl⟩ := Ex.mk.inj he
  clear he
  have b0 : Below w.heap.size w (w.alloc (.cells #[.int .i64 op, .slice a1 n1 c1, .slice a2 n2 c2, .string nm, .int .i64 cmp, .string txt, .int .i64 num] 66)) := (Below.refl _ _).alloc (Nat.le_refl _) _
  have x0 := heap_alloc_new w (.cells #[.int .i64 op, .slice a1 n1 c1, .slice a2 n2 c2, .string nm, .int .i64 cmp, .string txt, .int .i64 num] 66)
  have hP := fun W (hb : Below w.heap.size w W) => goodPath_calls sts a2 n2 c2 W (hF2.below hb) (hT.below hb) hS
  have hN := fun W (hb : Below w.heap.size w W) => name_calls nm W hnm (hT.below hb)
  have hX := fun W (hb : Below w.heap.size w W) => goodText_calls txt W htx (hT.below hb)
  have hC := fun W (hb : Below w.heap.size w W) => exprCloCon_calls args a1 n1 c1 W (hF1.below hb) (hT.below hb) hE
  have hl1 := hF1.len
  have hl2 := hF2.len
  have hcm := hF1.cap_le
  have hle := hF1.le
  have hnb : n1 ≤ 9223372036854775807 := by unfold maxLen at hcm; omega
  have hcm2 := hF2.cap_le
  have hle2 := hF2.le
  have hnb2 : n2 ≤ 9223372036854775807 := by unfold maxLen at hcm2; omega
  have HB := Lib.hid b0
  have HX := Lib.hid x0
  have hg : gdX (.mk op args sts nm cmp txt num) = (if op = 3 then decide (n1 = 0) && (gdP sts && ((nm.toList.isEmpty || nameB nm) && (if cmp = 0 then txt.toList.isEmpty && decide (num = 0) else if 1 ≤ cmp ∧ cmp ≤ 5 then txB txt && decide (num = 0) else if 6 ≤ cmp ∧ cmp ≤ 8 then txt.toList.isEmpty && (decide (0 ≤ num) && decide (num ≤ 1000000)) else false))) else decide (n2 = 0) && (nm.toList.isEmpty && (decide (cmp = 0) && (txt.toList.isEmpty && (decide (num = 0) && (lnB op n1 && gdXL args)))))) := by
    unfold gdX gdP cmB emB
    rw [hl1, hl2]
  obtain ⟨g, hgg⟩ : ∃ g, gdXL args = g := ⟨_, rfl⟩
  obtain ⟨p, hpp⟩ : ∃ p, gdP sts = p := ⟨_, rfl⟩
  obtain ⟨v, hvv⟩ : ∃ v, nameB nm = v := ⟨_, rfl⟩
  obtain ⟨t, htt⟩ : ∃ t, txB txt = t := ⟨_, rfl⟩
  simp only [hgg] at hC
  simp only [hpp] at hP
  simp only [hvv] at hN
  simp only [htt] at hX
  rw [hgg, hpp, hvv, htt] at hg
  rw [hg]
  clear hg hgg hpp hvv htt hF1 hF2 hT hE hS b0 x0 hl1 hl2 hcm hle hcm2 hle2
  obtain ⟨R, hR⟩ : ∃ R, (if op = 3 then decide (n1 = 0) && (p && ((nm.toList.isEmpty || v) && (if cmp = 0 then txt.toList.isEmpty && decide (num = 0) else if 1 ≤ cmp ∧ cmp ≤ 5 then t && decide (num = 0) else if 6 ≤ cmp ∧ cmp ≤ 8 then txt.toList.isEmpty && (decide (0 ≤ num) && decide (num ≤ 1000000)) else false))) else decide (n2 = 0) && (nm.toList.isEmpty && (decide (cmp = 0) && (txt.toList.isEmpty && (decide (num = 0) && (lnB op n1 && g)))))) = R := ⟨_, rfl⟩
  rw [hR]
  have HR := Lib.hid hR
  have HP := Lib.hid hP
  have HN := Lib.hid hN
  have HXT := Lib.hid hX
  have HC := Lib.hid hC
  clear hR hP hN hX hC hnm htx
  by_cases h3 : op = 3
  · subst h3
    by_cases hz : n1 = 0
    · subst hz
      have hP1 := HP.out _ HB.out
      cases p
      · go_enter Tryz.func78, Tryz.ntmps78
        go_wp2_with fail
        refine hP1.mono ?_
        rintro e w1 ⟨rfl, b1⟩
        have HB1 := Lib.hid (HB.out.trans (b1.mono HB.out.size))
        have hx := (b1.block _ (Array.getElem?_eq_some_iff.1 HX.out).1).trans HX.out
        have HX1 := Lib.hid hx
        have k0 : w1.cell? ⟨w.heap.size, 0, none⟩ = some (.int .i64 3) := by simp [World.cell?, hx]
        have k1 : w1.cell? ⟨w.heap.size, 1, none⟩ = some (.slice a1 0 c1) := by simp [World.cell?, hx]
        have k2 : w1.cell? ⟨w.heap.size, 2, none⟩ = some (.slice a2 n2 c2) := by simp [World.cell?, hx]
        have k3 : w1.cell? ⟨w.heap.size, 3, none⟩ = some (.string nm) := by simp [World.cell?, hx]
        have k4 : w1.cell? ⟨w.heap.size, 4, none⟩ = some (.int .i64 cmp) := by simp [World.cell?, hx]
        have k5 : w1.cell? ⟨w.heap.size, 5, none⟩ = some (.string txt) := by simp [World.cell?, hx]
        have k6 : w1.cell? ⟨w.heap.size, 6, none⟩ = some (.int .i64 num) := by simp [World.cell?, hx]
        clear hx
        clear hP1 b1
        go_wp2_with fail
        go_ret
        exact ⟨by rw [← HR.out]; first | rfl | (simp; done) | (simp; omega), HB1.out⟩
      · go_enter Tryz.func78, Tryz.ntmps78
        go_wp2_with fail
        refine hP1.mono ?_
        rintro e w1 ⟨rfl, b1⟩
        have HB1 := Lib.hid (HB.out.trans (b1.mono HB.out.size))
        have hx := (b1.block _ (Array.getElem?_eq_some_iff.1 HX.out).1).trans HX.out
        have HX1 := Lib.hid hx
        have k0 : w1.cell? ⟨w.heap.size, 0, none⟩ = some (.int .i64 3) := by simp [World.cell?, hx]
        have k1 : w1.cell? ⟨w.heap.size, 1, none⟩ = some (.slice a1 0 c1) := by simp [World.cell?, hx]
        have k2 : w1.cell? ⟨w.heap.size, 2, none⟩ = some (.slice a2 n2 c2) := by simp [World.cell?, hx]
        have k3 : w1.cell? ⟨w.heap.size, 3, none⟩ = some (.string nm) := by simp [World.cell?, hx]
        have k4 : w1.cell? ⟨w.heap.size, 4, none⟩ = some (.int .i64 cmp) := by simp [World.cell?, hx]
        have k5 : w1.cell? ⟨w.heap.size, 5, none⟩ = some (.string txt) := by simp [World.cell?, hx]
        have k6 : w1.cell? ⟨w.heap.size, 6, none⟩ = some (.int .i64 num) := by simp [World.cell?, hx]
        clear hx
        clear hP1 b1
        cases hn : nm.toList.isEmpty
        · rw [hn] at HR
          have hN1 := HN.out w1 HB1.out
          cases v
          · go_wp2_with fail
            refine hN1.mono ?_
            rintro e w2 ⟨rfl, b2⟩
            have HB2 := Lib.hid (HB1.out.trans (b2.mono HB1.out.size))
            clear k0 k1 k2 k3 k4 k5 k6
            have hx := (b2.block _ (Array.getElem?_eq_some_iff.1 HX1.out).1).trans HX1.out
            have HX2 := Lib.hid hx
            have k0 : w2.cell? ⟨w.heap.size, 0, none⟩ = some (.int .i64 3) := by simp [World.cell?, hx]
            have k1 : w2.cell? ⟨w.heap.size, 1, none⟩ = some (.slice a1 0 c1) := by simp [World.cell?, hx]
            have k2 : w2.cell? ⟨w.heap.size, 2, none⟩ = some (.slice a2 n2 c2) := by simp [World.cell?, hx]
            have k3 : w2.cell? ⟨w.heap.size, 3, none⟩ = some (.string nm) := by simp [World.cell?, hx]
            have k4 : w2.cell? ⟨w.heap.size, 4, none⟩ = some (.int .i64 cmp) := by simp [World.cell?, hx]
            have k5 : w2.cell? ⟨w.heap.size, 5, none⟩ = some (.string txt) := by simp [World.cell?, hx]
            have k6 : w2.cell? ⟨w.heap.size, 6, none⟩ = some (.int .i64 num) := by simp [World.cell?, hx]
            clear hx
            clear hN1 b2
            go_wp2_with fail
            go_ret
            exact ⟨by rw [← HR.out]; first | rfl | (simp; done) | (simp; omega), HB2.out⟩
          · go_wp2_with fail
            refine hN1.mono ?_
            rintro e w2 ⟨rfl, b2⟩
            have HB2 := Lib.hid (HB1.out.trans (b2.mono HB1.out.size))
            clear k0 k1 k2 k3 k4 k5 k6
            have hx := (b2.block _ (Array.getElem?_eq_some_iff.1 HX1.out).1).trans HX1.out
            have HX2 := Lib.hid hx
            have k0 : w2.cell? ⟨w.heap.size, 0, none⟩ = some (.int .i64 3) := by simp [World.cell?, hx]
            have k1 : w2.cell? ⟨w.heap.size, 1, none⟩ = some (.slice a1 0 c1) := by simp [World.cell?, hx]
            have k2 : w2.cell? ⟨w.heap.size, 2, none⟩ = some (.slice a2 n2 c2) := by simp [World.cell?, hx]
            have k3 : w2.cell? ⟨w.heap.size, 3, none⟩ = some (.string nm) := by simp [World.cell?, hx]
            have k4 : w2.cell? ⟨w.heap.size, 4, none⟩ = some (.int .i64 cmp) := by simp [World.cell?, hx]
            have k5 : w2.cell? ⟨w.heap.size, 5, none⟩ = some (.string txt) := by simp [World.cell?, hx]
            have k6 : w2.cell? ⟨w.heap.size, 6, none⟩ = some (.int .i64 num) := by simp [World.cell?, hx]
            clear hx
            clear hN1 b2
            by_cases hk : cmp = 0
            · subst hk
              cases ht : txt.toList.isEmpty
              · rw [ht] at HR
                go_wp2_with fail
                go_ret
                exact ⟨by rw [← HR.out]; first | rfl | (simp; done) | (simp; omega), HB2.out⟩
              · rw [ht] at HR
                go_wp2_with fail
                go_ret
                exact ⟨by rw [← HR.out]; first | rfl | (simp; done) | (simp; omega), HB2.out⟩
            by_cases hk : cmp = 1
            · subst hk
              have hX1 := HXT.out w2 HB2.out
              cases t
              · go_wp2_with fail
                refine hX1.mono ?_
                rintro e w9 ⟨rfl, b9⟩
                have HB9 := Lib.hid (HB2.out.trans (b9.mono HB2.out.size))
                clear k0 k1 k2 k3 k4 k5 k6
                have hx := (b9.block _ (Array.getElem?_eq_some_iff.1 HX2.out).1).trans HX2.out
                have HX9 := Lib.hid hx
                have k0 : w9.cell? ⟨w.heap.size, 0, none⟩ = some (.int .i64 3) := by simp [World.cell?, hx]
                have k1 : w9.cell? ⟨w.heap.size, 1, none⟩ = some (.slice a1 0 c1) := by simp [World.cell?, hx]
                have k2 : w9.cell? ⟨w.heap.size, 2, none⟩ = some (.slice a2 n2 c2) := by simp [World.cell?, hx]
                have k3 : w9.cell? ⟨w.heap.size, 3, none⟩ = some (.string nm) := by simp [World.cell?, hx]
                have k4 : w9.cell? ⟨w.heap.size, 4, none⟩ = some (.int .i64 1) := by simp [World.cell?, hx]
                have k5 : w9.cell? ⟨w.heap.size, 5, none⟩ = some (.string txt) := by simp [World.cell?, hx]
                have k6 : w9.cell? ⟨w.heap.size, 6, none⟩ = some (.int .i64 num) := by simp [World.cell?, hx]
                clear hx
                clear hX1 b9
                go_wp2_with fail
                go_ret
                exact ⟨by rw [← HR.out]; first | rfl | (simp; done) | (simp; omega), HB9.out⟩
              · go_wp2_with fail
                refine hX1.mono ?_
                rintro e w9 ⟨rfl, b9⟩
                have HB9 := Lib.hid (HB2.out.trans (b9.mono HB2.out.size))
                clear k0 k1 k2 k3 k4 k5 k6
                have hx := (b9.block _ (Array.getElem?_eq_some_iff.1 HX2.out).1).trans HX2.out
                have HX9 := Lib.hid hx
                have k0 : w9.cell? ⟨w.heap.size, 0, none⟩ = some (.int .i64 3) := by simp [World.cell?, hx]
                have k1 : w9.cell? ⟨w.heap.size, 1, none⟩ = some (.slice a1 0 c1) := by simp [World.cell?, hx]
                have k2 : w9.cell? ⟨w.heap.size, 2, none⟩ = some (.slice a2 n2 c2) := by simp [World.cell?, hx]
                have k3 : w9.cell? ⟨w.heap.size, 3, none⟩ = some (.string nm) := by simp [World.cell?, hx]
                have k4 : w9.cell? ⟨w.heap.size, 4, none⟩ = some (.int .i64 1) := by simp [World.cell?, hx]
                have k5 : w9.cell? ⟨w.heap.size, 5, none⟩ = some (.string txt) := by simp [World.cell?, hx]
                have k6 : w9.cell? ⟨w.heap.size, 6, none⟩ = some (.int .i64 num) := by simp [World.cell?, hx]
                clear hx
                clear hX1 b9
                go_wp2_with fail
                go_ret
                exact ⟨by rw [← HR.out]; first | rfl | (simp; done) | (simp; omega), HB9.out⟩
            by_cases hk : cmp = 2
            · subst hk
              have hX1 := HXT.out w2 HB2.out
              cases t
              · go_wp2_with fail
                refine hX1.mono ?_
                rintro e w9 ⟨rfl, b9⟩
                have HB9 := Lib.hid (HB2.out.trans (b9.mono HB2.out.size))
                clear k0 k1 k2 k3 k4 k5 k6
                have hx := (b9.block _ (Array.getElem?_eq_some_iff.1 HX2.out).1).trans HX2.out
                have HX9 := Lib.hid hx
                have k0 : w9.cell? ⟨w.heap.size, 0, none⟩ = some (.int .i64 3) := by simp [World.cell?, hx]
                have k1 : w9.cell? ⟨w.heap.size, 1, none⟩ = some (.slice a1 0 c1) := by simp [World.cell?, hx]
                have k2 : w9.cell? ⟨w.heap.size, 2, none⟩ = some (.slice a2 n2 c2) := by simp [World.cell?, hx]
                have k3 : w9.cell? ⟨w.heap.size, 3, none⟩ = some (.string nm) := by simp [World.cell?, hx]
                have k4 : w9.cell? ⟨w.heap.size, 4, none⟩ = some (.int .i64 2) := by simp [World.cell?, hx]
                have k5 : w9.cell? ⟨w.heap.size, 5, none⟩ = some (.string txt) := by simp [World.cell?, hx]
                have k6 : w9.cell? ⟨w.heap.size, 6, none⟩ = some (.int .i64 num) := by simp [World.cell?, hx]
                clear hx
                clear hX1 b9
                go_wp2_with fail
                go_ret
                exact ⟨by rw [← HR.out]; first | rfl | (simp; done) | (simp; omega), HB9.out⟩
              · go_wp2_with fail
                refine hX1.mono ?_
                rintro e w9 ⟨rfl, b9⟩
                have HB9 := Lib.hid (HB2.out.trans (b9.mono HB2.out.size))
                clear k0 k1 k2 k3 k4 k5 k6
                have hx := (b9.block _ (Array.getElem?_eq_some_iff.1 HX2.out).1).trans HX2.out
                have HX9 := Lib.hid hx
                have k0 : w9.cell? ⟨w.heap.size, 0, none⟩ = some (.int .i64 3) := by simp [World.cell?, hx]
                have k1 : w9.cell? ⟨w.heap.size, 1, none⟩ = some (.slice a1 0 c1) := by simp [World.cell?, hx]
                have k2 : w9.cell? ⟨w.heap.size, 2, none⟩ = some (.slice a2 n2 c2) := by simp [World.cell?, hx]
                have k3 : w9.cell? ⟨w.heap.size, 3, none⟩ = some (.string nm) := by simp [World.cell?, hx]
                have k4 : w9.cell? ⟨w.heap.size, 4, none⟩ = some (.int .i64 2) := by simp [World.cell?, hx]
                have k5 : w9.cell? ⟨w.heap.size, 5, none⟩ = some (.string txt) := by simp [World.cell?, hx]
                have k6 : w9.cell? ⟨w.heap.size, 6, none⟩ = some (.int .i64 num) := by simp [World.cell?, hx]
                clear hx
                clear hX1 b9
                go_wp2_with fail
                go_ret
                exact ⟨by rw [← HR.out]; first | rfl | (simp; done) | (simp; omega), HB9.out⟩
            by_cases hk : cmp = 3
            · subst hk
              have hX1 := HXT.out w2 HB2.out
              cases t
              · go_wp2_with fail
                refine hX1.mono ?_
                rintro e w9 ⟨rfl, b9⟩
                have HB9 := Lib.hid (HB2.out.trans (b9.mono HB2.out.size))
                clear k0 k1 k2 k3 k4 k5 k6
                have hx := (b9.block _ (Array.getElem?_eq_some_iff.1 HX2.out).1).trans HX2.out
                have HX9 := Lib.hid hx
                have k0 : w9.cell? ⟨w.heap.size, 0, none⟩ = some (.int .i64 3) := by simp [World.cell?, hx]
                have k1 : w9.cell? ⟨w.heap.size, 1, none⟩ = some (.slice a1 0 c1) := by simp [World.cell?, hx]
                have k2 : w9.cell? ⟨w.heap.size, 2, none⟩ = some (.slice a2 n2 c2) := by simp [World.cell?, hx]
                have k3 : w9.cell? ⟨w.heap.size, 3, none⟩ = some (.string nm) := by simp [World.cell?, hx]
                have k4 : w9.cell? ⟨w.heap.size, 4, none⟩ = some (.int .i64 3) := by simp [World.cell?, hx]
                have k5 : w9.cell? ⟨w.heap.size, 5, none⟩ = some (.string txt) := by simp [World.cell?, hx]
                have k6 : w9.cell? ⟨w.heap.size, 6, none⟩ = some (.int .i64 num) := by simp [World.cell?, hx]
                clear hx
                clear hX1 b9
                go_wp2_with fail
                go_ret
                exact ⟨by rw [← HR.out]; first | rfl | (simp; done) | (simp; omega), HB9.out⟩
              · go_wp2_with fail
                refine hX1.mono ?_
                rintro e w9 ⟨rfl, b9⟩
                have HB9 := Lib.hid (HB2.out.trans (b9.mono HB2.out.size))
                clear k0 k1 k2 k3 k4 k5 k6
                have hx := (b9.block _ (Array.getElem?_eq_some_iff.1 HX2.out).1).trans HX2.out
                have HX9 := Lib.hid hx
                have k0 : w9.cell? ⟨w.heap.size, 0, none⟩ = some (.int .i64 3) := by simp [World.cell?, hx]
                have k1 : w9.cell? ⟨w.heap.size, 1, none⟩ = some (.slice a1 0 c1) := by simp [World.cell?, hx]
                have k2 : w9.cell? ⟨w.heap.size, 2, none⟩ = some (.slice a2 n2 c2) := by simp [World.cell?, hx]
                have k3 : w9.cell? ⟨w.heap.size, 3, none⟩ = some (.string nm) := by simp [World.cell?, hx]
                have k4 : w9.cell? ⟨w.heap.size, 4, none⟩ = some (.int .i64 3) := by simp [World.cell?, hx]
                have k5 : w9.cell? ⟨w.heap.size, 5, none⟩ = some (.string txt) := by simp [World.cell?, hx]
                have k6 : w9.cell? ⟨w.heap.size, 6, none⟩ = some (.int .i64 num) := by simp [World.cell?, hx]
                clear hx
                clear hX1 b9
                go_wp2_with fail
                go_ret
                exact ⟨by rw [← HR.out]; first | rfl | (simp; done) | (simp; omega), HB9.out⟩
            by_cases hk : cmp = 4
            · subst hk
              have hX1 := HXT.out w2 HB2.out
              cases t
              · go_wp2_with fail
                refine hX1.mono ?_
                rintro e w9 ⟨rfl, b9⟩
                have HB9 := Lib.hid (HB2.out.trans (b9.mono HB2.out.size))
                clear k0 k1 k2 k3 k4 k5 k6
                have hx := (b9.block _ (Array.getElem?_eq_some_iff.1 HX2.out).1).trans HX2.out
                have HX9 := Lib.hid hx
                have k0 : w9.cell? ⟨w.heap.size, 0, none⟩ = some (.int .i64 3) := by simp [World.cell?, hx]
                have k1 : w9.cell? ⟨w.heap.size, 1, none⟩ = some (.slice a1 0 c1) := by simp [World.cell?, hx]
                have k2 : w9.cell? ⟨w.heap.size, 2, none⟩ = some (.slice a2 n2 c2) := by simp [World.cell?, hx]
                have k3 : w9.cell? ⟨w.heap.size, 3, none⟩ = some (.string nm) := by simp [World.cell?, hx]
                have k4 : w9.cell? ⟨w.heap.size, 4, none⟩ = some (.int .i64 4) := by simp [World.cell?, hx]
                have k5 : w9.cell? ⟨w.heap.size, 5, none⟩ = some (.string txt) := by simp [World.cell?, hx]
                have k6 : w9.cell? ⟨w.heap.size, 6, none⟩ = some (.int .i64 num) := by simp [World.cell?, hx]
                clear hx
                clear hX1 b9
                go_wp2_with fail
                go_ret
                exact ⟨by rw [← HR.out]; first | rfl | (simp; done) | (simp; omega), HB9.out⟩
              · go_wp2_with fail
                refine hX1.mono ?_
                rintro e w9 ⟨rfl, b9⟩
                have HB9 := Lib.hid (HB2.out.trans (b9.mono HB2.out.size))
                clear k0 k1 k2 k3 k4 k5 k6
                have hx := (b9.block _ (Array.getElem?_eq_some_iff.1 HX2.out).1).trans HX2.out
                have HX9 := Lib.hid hx
                have k0 : w9.cell? ⟨w.heap.size, 0, none⟩ = some (.int .i64 3) := by simp [World.cell?, hx]
                have k1 : w9.cell? ⟨w.heap.size, 1, none⟩ = some (.slice a1 0 c1) := by simp [World.cell?, hx]
                have k2 : w9.cell? ⟨w.heap.size, 2, none⟩ = some (.slice a2 n2 c2) := by simp [World.cell?, hx]
                have k3 : w9.cell? ⟨w.heap.size, 3, none⟩ = some (.string nm) := by simp [World.cell?, hx]
                have k4 : w9.cell? ⟨w.heap.size, 4, none⟩ = some (.int .i64 4) := by simp [World.cell?, hx]
                have k5 : w9.cell? ⟨w.heap.size, 5, none⟩ = some (.string txt) := by simp [World.cell?, hx]
                have k6 : w9.cell? ⟨w.heap.size, 6, none⟩ = some (.int .i64 num) := by simp [World.cell?, hx]
                clear hx
                clear hX1 b9
                go_wp2_with fail
                go_ret
                exact ⟨by rw [← HR.out]; first | rfl | (simp; done) | (simp; omega), HB9.out⟩
            by_cases hk : cmp = 5
            · subst hk
              have hX1 := HXT.out w2 HB2.out
              cases t
              · go_wp2_with fail
                refine hX1.mono ?_
                rintro e w9 ⟨rfl, b9⟩
                have HB9 := Lib.hid (HB2.out.trans (b9.mono HB2.out.size))
                clear k0 k1 k2 k3 k4 k5 k6
                have hx := (b9.block _ (Array.getElem?_eq_some_iff.1 HX2.out).1).trans HX2.out
                have HX9 := Lib.hid hx
                have k0 : w9.cell? ⟨w.heap.size, 0, none⟩ = some (.int .i64 3) := by simp [World.cell?, hx]
                have k1 : w9.cell? ⟨w.heap.size, 1, none⟩ = some (.slice a1 0 c1) := by simp [World.cell?, hx]
                have k2 : w9.cell? ⟨w.heap.size, 2, none⟩ = some (.slice a2 n2 c2) := by simp [World.cell?, hx]
                have k3 : w9.cell? ⟨w.heap.size, 3, none⟩ = some (.string nm) := by simp [World.cell?, hx]
                have k4 : w9.cell? ⟨w.heap.size, 4, none⟩ = some (.int .i64 5) := by simp [World.cell?, hx]
                have k5 : w9.cell? ⟨w.heap.size, 5, none⟩ = some (.string txt) := by simp [World.cell?, hx]
                have k6 : w9.cell? ⟨w.heap.size, 6, none⟩ = some (.int .i64 num) := by simp [World.cell?, hx]
                clear hx
                clear hX1 b9
                go_wp2_with fail
                go_ret
                exact ⟨by rw [← HR.out]; first | rfl | (simp; done) | (simp; omega), HB9.out⟩
              · go_wp2_with fail
                refine hX1.mono ?_
                rintro e w9 ⟨rfl, b9⟩
                have HB9 := Lib.hid (HB2.out.trans (b9.mono HB2.out.size))
                clear k0 k1 k2 k3 k4 k5 k6
                have hx := (b9.block _ (Array.getElem?_eq_some_iff.1 HX2.out).1).trans HX2.out
                have HX9 := Lib.hid hx
                have k0 : w9.cell? ⟨w.heap.size, 0, none⟩ = some (.int .i64 3) := by simp [World.cell?, hx]
                have k1 : w9.cell? ⟨w.heap.size, 1, none⟩ = some (.slice a1 0 c1) := by simp [World.cell?, hx]
                have k2 : w9.cell? ⟨w.heap.size, 2, none⟩ = some (.slice a2 n2 c2) := by simp [World.cell?, hx]
                have k3 : w9.cell? ⟨w.heap.size, 3, none⟩ = some (.string nm) := by simp [World.cell?, hx]
                have k4 : w9.cell? ⟨w.heap.size, 4, none⟩ = some (.int .i64 5) := by simp [World.cell?, hx]
                have k5 : w9.cell? ⟨w.heap.size, 5, none⟩ = some (.string txt) := by simp [World.cell?, hx]
                have k6 : w9.cell? ⟨w.heap.size, 6, none⟩ = some (.int .i64 num) := by simp [World.cell?, hx]
                clear hx
                clear hX1 b9
                go_wp2_with fail
                go_ret
                exact ⟨by rw [← HR.out]; first | rfl | (simp; done) | (simp; omega), HB9.out⟩
            by_cases hk : cmp = 6
            · subst hk
              cases ht : txt.toList.isEmpty
              · rw [ht] at HR
                go_wp2_with fail
                go_ret
                exact ⟨by rw [← HR.out]; first | rfl | (simp; done) | (simp; omega), HB2.out⟩
              · rw [ht] at HR
                by_cases hu : 0 ≤ num
                · go_wp2_with fail
                  go_ret
                  exact ⟨by rw [← HR.out]; first | rfl | (simp [hu]; done) | (simp [hu]; omega), HB2.out⟩
                · go_wp2_with fail
                  go_ret
                  exact ⟨by rw [← HR.out]; first | rfl | (simp; done) | (simp; omega), HB2.out⟩
            by_cases hk : cmp = 7
            · subst hk
              cases ht : txt.toList.isEmpty
              · rw [ht] at HR
                go_wp2_with fail
                go_ret
                exact ⟨by rw [← HR.out]; first | rfl | (simp; done) | (simp; omega), HB2.out⟩
              · rw [ht] at HR
                by_cases hu : 0 ≤ num
                · go_wp2_with fail
                  go_ret
                  exact ⟨by rw [← HR.out]; first | rfl | (simp [hu]; done) | (simp [hu]; omega), HB2.out⟩
                · go_wp2_with fail
                  go_ret
                  exact ⟨by rw [← HR.out]; first | rfl | (simp; done) | (simp; omega), HB2.out⟩
            by_cases hk : cmp = 8
            · subst hk
              cases ht : txt.toList.isEmpty
              · rw [ht] at HR
                go_wp2_with fail
                go_ret
                exact ⟨by rw [← HR.out]; first | rfl | (simp; done) | (simp; omega), HB2.out⟩
              · rw [ht] at HR
                by_cases hu : 0 ≤ num
                · go_wp2_with fail
                  go_ret
                  exact ⟨by rw [← HR.out]; first | rfl | (simp [hu]; done) | (simp [hu]; omega), HB2.out⟩
                · go_wp2_with fail
                  go_ret
                  exact ⟨by rw [← HR.out]; first | rfl | (simp; done) | (simp; omega), HB2.out⟩
            have e0 : (cmp == 0) = false := beq_eq_false_iff_ne.2 (by omega)
            have e1 : (cmp == 1) = false := beq_eq_false_iff_ne.2 (by omega)
            have e2 : (cmp == 2) = false := beq_eq_false_iff_ne.2 (by omega)
            have e3 : (cmp == 3) = false := beq_eq_false_iff_ne.2 (by omega)
            have e4 : (cmp == 4) = false := beq_eq_false_iff_ne.2 (by omega)
            have e5 : (cmp == 5) = false := beq_eq_false_iff_ne.2 (by omega)
            have e6 : (cmp == 6) = false := beq_eq_false_iff_ne.2 (by omega)
            have e7 : (cmp == 7) = false := beq_eq_false_iff_ne.2 (by omega)
            have e8 : (cmp == 8) = false := beq_eq_false_iff_ne.2 (by omega)
            have f1 : ¬ (1 ≤ cmp ∧ cmp ≤ 5) := by omega
            have f2 : ¬ (6 ≤ cmp ∧ cmp ≤ 8) := by omega
            have f0 : ¬ cmp = 0 := by omega
            have HR2 := Lib.hid (show false = R by rw [← HR.out]; simp [f0, f1, f2])
            clear f0 f1 f2
            go_wp2_with fail
            go_ret
            exact ⟨by rw [← HR2.out]; rfl, HB2.out⟩
        · rw [hn] at HR
          by_cases hk : cmp = 0
          · subst hk
            cases ht : txt.toList.isEmpty
            · rw [ht] at HR
              go_wp2_with fail
              go_ret
              exact ⟨by rw [← HR.out]; first | rfl | (simp; done) | (simp; omega), HB1.out⟩
            · rw [ht] at HR
              go_wp2_with fail
              go_ret
              exact ⟨by rw [← HR.out]; first | rfl | (simp; done) | (simp; omega), HB1.out⟩
          by_cases hk : cmp = 1
          · subst hk
            have hX1 := HXT.out w1 HB1.out
            cases t
            · go_wp2_with fail
              refine hX1.mono ?_
              rintro e w9 ⟨rfl, b9⟩
              have HB9 := Lib.hid (HB1.out.trans (b9.mono HB1.out.size))
              clear k0 k1 k2 k3 k4 k5 k6
              have hx := (b9.block _ (Array.getElem?_eq_some_iff.1 HX1.out).1).trans HX1.out
              have HX9 := Lib.hid hx
              have k0 : w9.cell? ⟨w.heap.size, 0, none⟩ = some (.int .i64 3) := by simp [World.cell?, hx]
              have k1 : w9.cell? ⟨w.heap.size, 1, none⟩ = some (.slice a1 0 c1) := by simp [World.cell?, hx]
              have k2 : w9.cell? ⟨w.heap.size, 2, none⟩ = some (.slice a2 n2 c2) := by simp [World.cell?, hx]
              have k3 : w9.cell? ⟨w.heap.size, 3, none⟩ = some (.string nm) := by simp [World.cell?, hx]
              have k4 : w9.cell? ⟨w.heap.size, 4, none⟩ = some (.int .i64 1) := by simp [World.cell?, hx]
              have k5 : w9.cell? ⟨w.heap.size, 5, none⟩ = some (.string txt) := by simp [World.cell?, hx]
              have k6 : w9.cell? ⟨w.heap.size, 6, none⟩ = some (.int .i64 num) := by simp [World.cell?, hx]
              clear hx
              clear hX1 b9
              go_wp2_with fail
              go_ret
              exact ⟨by rw [← HR.out]; first | rfl | (simp; done) | (simp; omega), HB9.out⟩
            · go_wp2_with fail
              refine hX1.mono ?_
              rintro e w9 ⟨rfl, b9⟩
              have HB9 := Lib.hid (HB1.out.trans (b9.mono HB1.out.size))
              clear k0 k1 k2 k3 k4 k5 k6
              have hx := (b9.block _ (Array.getElem?_eq_some_iff.1 HX1.out).1).trans HX1.out
              have HX9 := Lib.hid hx
              have k0 : w9.cell? ⟨w.heap.size, 0, none⟩ = some (.int .i64 3) := by simp [World.cell?, hx]
              have k1 : w9.cell? ⟨w.heap.size, 1, none⟩ = some (.slice a1 0 c1) := by simp [World.cell?, hx]
              have k2 : w9.cell? ⟨w.heap.size, 2, none⟩ = some (.slice a2 n2 c2) := by simp [World.cell?, hx]
              have k3 : w9.cell? ⟨w.heap.size, 3, none⟩ = some (.string nm) := by simp [World.cell?, hx]
              have k4 : w9.cell? ⟨w.heap.size, 4, none⟩ = some (.int .i64 1) := by simp [World.cell?, hx]
              have k5 : w9.cell? ⟨w.heap.size, 5, none⟩ = some (.string txt) := by simp [World.cell?, hx]
              have k6 : w9.cell? ⟨w.heap.size, 6, none⟩ = some (.int .i64 num) := by simp [World.cell?, hx]
              clear hx
              clear hX1 b9
              go_wp2_with fail
              go_ret
              exact ⟨by rw [← HR.out]; first | rfl | (simp; done) | (simp; omega), HB9.out⟩
          by_cases hk : cmp = 2
          · subst hk
            have hX1 := HXT.out w1 HB1.out
            cases t
            · go_wp2_with fail
              refine hX1.mono ?_
              rintro e w9 ⟨rfl, b9⟩
              have HB9 := Lib.hid (HB1.out.trans (b9.mono HB1.out.size))
              clear k0 k1 k2 k3 k4 k5 k6
              have hx := (b9.block _ (Array.getElem?_eq_some_iff.1 HX1.out).1).trans HX1.out
              have HX9 := Lib.hid hx
              have k0 : w9.cell? ⟨w.heap.size, 0, none⟩ = some (.int .i64 3) := by simp [World.cell?, hx]
              have k1 : w9.cell? ⟨w.heap.size, 1, none⟩ = some (.slice a1 0 c1) := by simp [World.cell?, hx]
              have k2 : w9.cell? ⟨w.heap.size, 2, none⟩ = some (.slice a2 n2 c2) := by simp [World.cell?, hx]
              have k3 : w9.cell? ⟨w.heap.size, 3, none⟩ = some (.string nm) := by simp [World.cell?, hx]
              have k4 : w9.cell? ⟨w.heap.size, 4, none⟩ = some (.int .i64 2) := by simp [World.cell?, hx]
              have k5 : w9.cell? ⟨w.heap.size, 5, none⟩ = some (.string txt) := by simp [World.cell?, hx]
              have k6 : w9.cell? ⟨w.heap.size, 6, none⟩ = some (.int .i64 num) := by simp [World.cell?, hx]
              clear hx
              clear hX1 b9
              go_wp2_with fail
              go_ret
              exact ⟨by rw [← HR.out]; first | rfl | (simp; done) | (simp; omega), HB9.out⟩
            · go_wp2_with fail
              refine hX1.mono ?_
              rintro e w9 ⟨rfl, b9⟩
              have HB9 := Lib.hid (HB1.out.trans (b9.mono HB1.out.size))
              clear k0 k1 k2 k3 k4 k5 k6
              have hx := (b9.block _ (Array.getElem?_eq_some_iff.1 HX1.out).1).trans HX1.out
              have HX9 := Lib.hid hx
              have k0 : w9.cell? ⟨w.heap.size, 0, none⟩ = some (.int .i64 3) := by simp [World.cell?, hx]
              have k1 : w9.cell? ⟨w.heap.size, 1, none⟩ = some (.slice a1 0 c1) := by simp [World.cell?, hx]
              have k2 : w9.cell? ⟨w.heap.size, 2, none⟩ = some (.slice a2 n2 c2) := by simp [World.cell?, hx]
              have k3 : w9.cell? ⟨w.heap.size, 3, none⟩ = some (.string nm) := by simp [World.cell?, hx]
              have k4 : w9.cell? ⟨w.heap.size, 4, none⟩ = some (.int .i64 2) := by simp [World.cell?, hx]
              have k5 : w9.cell? ⟨w.heap.size, 5, none⟩ = some (.string txt) := by simp [World.cell?, hx]
              have k6 : w9.cell? ⟨w.heap.size, 6, none⟩ = some (.int .i64 num) := by simp [World.cell?, hx]
              clear hx
              clear hX1 b9
              go_wp2_with fail
              go_ret
              exact ⟨by rw [← HR.out]; first | rfl | (simp; done) | (simp; omega), HB9.out⟩
          by_cases hk : cmp = 3
          · subst hk
            have hX1 := HXT.out w1 HB1.out
            cases t
            · go_wp2_with fail
              refine hX1.mono ?_
              rintro e w9 ⟨rfl, b9⟩
              have HB9 := Lib.hid (HB1.out.trans (b9.mono HB1.out.size))
              clear k0 k1 k2 k3 k4 k5 k6
              have hx := (b9.block _ (Array.getElem?_eq_some_iff.1 HX1.out).1).trans HX1.out
              have HX9 := Lib.hid hx
              have k0 : w9.cell? ⟨w.heap.size, 0, none⟩ = some (.int .i64 3) := by simp [World.cell?, hx]
              have k1 : w9.cell? ⟨w.heap.size, 1, none⟩ = some (.slice a1 0 c1) := by simp [World.cell?, hx]
              have k2 : w9.cell? ⟨w.heap.size, 2, none⟩ = some (.slice a2 n2 c2) := by simp [World.cell?, hx]
              have k3 : w9.cell? ⟨w.heap.size, 3, none⟩ = some (.string nm) := by simp [World.cell?, hx]
              have k4 : w9.cell? ⟨w.heap.size, 4, none⟩ = some (.int .i64 3) := by simp [World.cell?, hx]
              have k5 : w9.cell? ⟨w.heap.size, 5, none⟩ = some (.string txt) := by simp [World.cell?, hx]
              have k6 : w9.cell? ⟨w.heap.size, 6, none⟩ = some (.int .i64 num) := by simp [World.cell?, hx]
              clear hx
              clear hX1 b9
              go_wp2_with fail
              go_ret
              exact ⟨by rw [← HR.out]; first | rfl | (simp; done) | (simp; omega), HB9.out⟩
            · go_wp2_with fail
              refine hX1.mono ?_
              rintro e w9 ⟨rfl, b9⟩
              have HB9 := Lib.hid (HB1.out.trans (b9.mono HB1.out.size))
              clear k0 k1 k2 k3 k4 k5 k6
              have hx := (b9.block _ (Array.getElem?_eq_some_iff.1 HX1.out).1).trans HX1.out
              have HX9 := Lib.hid hx
              have k0 : w9.cell? ⟨w.heap.size, 0, none⟩ = some (.int .i64 3) := by simp [World.cell?, hx]
              have k1 : w9.cell? ⟨w.heap.size, 1, none⟩ = some (.slice a1 0 c1) := by simp [World.cell?, hx]
              have k2 : w9.cell? ⟨w.heap.size, 2, none⟩ = some (.slice a2 n2 c2) := by simp [World.cell?, hx]
              have k3 : w9.cell? ⟨w.heap.size, 3, none⟩ = some (.string nm) := by simp [World.cell?, hx]
              have k4 : w9.cell? ⟨w.heap.size, 4, none⟩ = some (.int .i64 3) := by simp [World.cell?, hx]
              have k5 : w9.cell? ⟨w.heap.size, 5, none⟩ = some (.string txt) := by simp [World.cell?, hx]
              have k6 : w9.cell? ⟨w.heap.size, 6, none⟩ = some (.int .i64 num) := by simp [World.cell?, hx]
              clear hx
              clear hX1 b9
              go_wp2_with fail
              go_ret
              exact ⟨by rw [← HR.out]; first | rfl | (simp; done) | (simp; omega), HB9.out⟩
          by_cases hk : cmp = 4
          · subst hk
            have hX1 := HXT.out w1 HB1.out
            cases t
            · go_wp2_with fail
              refine hX1.mono ?_
              rintro e w9 ⟨rfl, b9⟩
              have HB9 := Lib.hid (HB1.out.trans (b9.mono HB1.out.size))
              clear k0 k1 k2 k3 k4 k5 k6
              have hx := (b9.block _ (Array.getElem?_eq_some_iff.1 HX1.out).1).trans HX1.out
              have HX9 := Lib.hid hx
              have k0 : w9.cell? ⟨w.heap.size, 0, none⟩ = some (.int .i64 3) := by simp [World.cell?, hx]
              have k1 : w9.cell? ⟨w.heap.size, 1, none⟩ = some (.slice a1 0 c1) := by simp [World.cell?, hx]
              have k2 : w9.cell? ⟨w.heap.size, 2, none⟩ = some (.slice a2 n2 c2) := by simp [World.cell?, hx]
              have k3 : w9.cell? ⟨w.heap.size, 3, none⟩ = some (.string nm) := by simp [World.cell?, hx]
              have k4 : w9.cell? ⟨w.heap.size, 4, none⟩ = some (.int .i64 4) := by simp [World.cell?, hx]
              have k5 : w9.cell? ⟨w.heap.size, 5, none⟩ = some (.string txt) := by simp [World.cell?, hx]
              have k6 : w9.cell? ⟨w.heap.size, 6, none⟩ = some (.int .i64 num) := by simp [World.cell?, hx]
              clear hx
              clear hX1 b9
              go_wp2_with fail
              go_ret
              exact ⟨by rw [← HR.out]; first | rfl | (simp; done) | (simp; omega), HB9.out⟩
            · go_wp2_with fail
              refine hX1.mono ?_
              rintro e w9 ⟨rfl, b9⟩
              have HB9 := Lib.hid (HB1.out.trans (b9.mono HB1.out.size))
              clear k0 k1 k2 k3 k4 k5 k6
              have hx := (b9.block _ (Array.getElem?_eq_some_iff.1 HX1.out).1).trans HX1.out
              have HX9 := Lib.hid hx
              have k0 : w9.cell? ⟨w.heap.size, 0, none⟩ = some (.int .i64 3) := by simp [World.cell?, hx]
              have k1 : w9.cell? ⟨w.heap.size, 1, none⟩ = some (.slice a1 0 c1) := by simp [World.cell?, hx]
              have k2 : w9.cell? ⟨w.heap.size, 2, none⟩ = some (.slice a2 n2 c2) := by simp [World.cell?, hx]
              have k3 : w9.cell? ⟨w.heap.size, 3, none⟩ = some (.string nm) := by simp [World.cell?, hx]
              have k4 : w9.cell? ⟨w.heap.size, 4, none⟩ = some (.int .i64 4) := by simp [World.cell?, hx]
              have k5 : w9.cell? ⟨w.heap.size, 5, none⟩ = some (.string txt) := by simp [World.cell?, hx]
              have k6 : w9.cell? ⟨w.heap.size, 6, none⟩ = some (.int .i64 num) := by simp [World.cell?, hx]
              clear hx
              clear hX1 b9
              go_wp2_with fail
              go_ret
              exact ⟨by rw [← HR.out]; first | rfl | (simp; done) | (simp; omega), HB9.out⟩
          by_cases hk : cmp = 5
          · subst hk
            have hX1 := HXT.out w1 HB1.out
            cases t
            · go_wp2_with fail
              refine hX1.mono ?_
              rintro e w9 ⟨rfl, b9⟩
              have HB9 := Lib.hid (HB1.out.trans (b9.mono HB1.out.size))
              clear k0 k1 k2 k3 k4 k5 k6
              have hx := (b9.block _ (Array.getElem?_eq_some_iff.1 HX1.out).1).trans HX1.out
              have HX9 := Lib.hid hx
              have k0 : w9.cell? ⟨w.heap.size, 0, none⟩ = some (.int .i64 3) := by simp [World.cell?, hx]
              have k1 : w9.cell? ⟨w.heap.size, 1, none⟩ = some (.slice a1 0 c1) := by simp [World.cell?, hx]
              have k2 : w9.cell? ⟨w.heap.size, 2, none⟩ = some (.slice a2 n2 c2) := by simp [World.cell?, hx]
              have k3 : w9.cell? ⟨w.heap.size, 3, none⟩ = some (.string nm) := by simp [World.cell?, hx]
              have k4 : w9.cell? ⟨w.heap.size, 4, none⟩ = some (.int .i64 5) := by simp [World.cell?, hx]
              have k5 : w9.cell? ⟨w.heap.size, 5, none⟩ = some (.string txt) := by simp [World.cell?, hx]
              have k6 : w9.cell? ⟨w.heap.size, 6, none⟩ = some (.int .i64 num) := by simp [World.cell?, hx]
              clear hx
              clear hX1 b9
              go_wp2_with fail
              go_ret
              exact ⟨by rw [← HR.out]; first | rfl | (simp; done) | (simp; omega), HB9.out⟩
            · go_wp2_with fail
              refine hX1.mono ?_
              rintro e w9 ⟨rfl, b9⟩
              have HB9 := Lib.hid (HB1.out.trans (b9.mono HB1.out.size))
              clear k0 k1 k2 k3 k4 k5 k6
              have hx := (b9.block _ (Array.getElem?_eq_some_iff.1 HX1.out).1).trans HX1.out
              have HX9 := Lib.hid hx
              have k0 : w9.cell? ⟨w.heap.size, 0, none⟩ = some (.int .i64 3) := by simp [World.cell?, hx]
              have k1 : w9.cell? ⟨w.heap.size, 1, none⟩ = some (.slice a1 0 c1) := by simp [World.cell?, hx]
              have k2 : w9.cell? ⟨w.heap.size, 2, none⟩ = some (.slice a2 n2 c2) := by simp [World.cell?, hx]
              have k3 : w9.cell? ⟨w.heap.size, 3, none⟩ = some (.string nm) := by simp [World.cell?, hx]
              have k4 : w9.cell? ⟨w.heap.size, 4, none⟩ = some (.int .i64 5) := by simp [World.cell?, hx]
              have k5 : w9.cell? ⟨w.heap.size, 5, none⟩ = some (.string txt) := by simp [World.cell?, hx]
              have k6 : w9.cell? ⟨w.heap.size, 6, none⟩ = some (.int .i64 num) := by simp [World.cell?, hx]
              clear hx
              clear hX1 b9
              go_wp2_with fail
              go_ret
              exact ⟨by rw [← HR.out]; first | rfl | (simp; done) | (simp; omega), HB9.out⟩
          by_cases hk : cmp = 6
          · subst hk
            cases ht : txt.toList.isEmpty
            · rw [ht] at HR
              go_wp2_with fail
              go_ret
              exact ⟨by rw [← HR.out]; first | rfl | (simp; done) | (simp; omega), HB1.out⟩
            · rw [ht] at HR
              by_cases hu : 0 ≤ num
              · go_wp2_with fail
                go_ret
                exact ⟨by rw [← HR.out]; first | rfl | (simp [hu]; done) | (simp [hu]; omega), HB1.out⟩
              · go_wp2_with fail
                go_ret
                exact ⟨by rw [← HR.out]; first | rfl | (simp; done) | (simp; omega), HB1.out⟩
          by_cases hk : cmp = 7
          · subst hk
            cases ht : txt.toList.isEmpty
            · rw [ht] at HR
              go_wp2_with fail
              go_ret
              exact ⟨by rw [← HR.out]; first | rfl | (simp; done) | (simp; omega), HB1.out⟩
            · rw [ht] at HR
              by_cases hu : 0 ≤ num
              · go_wp2_with fail
                go_ret
                exact ⟨by rw [← HR.out]; first | rfl | (simp [hu]; done) | (simp [hu]; omega), HB1.out⟩
              · go_wp2_with fail
                go_ret
                exact ⟨by rw [← HR.out]; first | rfl | (simp; done) | (simp; omega), HB1.out⟩
          by_cases hk : cmp = 8
          · subst hk
            cases ht : txt.toList.isEmpty
            · rw [ht] at HR
              go_wp2_with fail
              go_ret
              exact ⟨by rw [← HR.out]; first | rfl | (simp; done) | (simp; omega), HB1.out⟩
            · rw [ht] at HR
              by_cases hu : 0 ≤ num
              · go_wp2_with fail
                go_ret
                exact ⟨by rw [← HR.out]; first | rfl | (simp [hu]; done) | (simp [hu]; omega), HB1.out⟩
              · go_wp2_with fail
                go_ret
                exact ⟨by rw [← HR.out]; first | rfl | (simp; done) | (simp; omega), HB1.out⟩
          have e0 : (cmp == 0) = false := beq_eq_false_iff_ne.2 (by omega)
          have e1 : (cmp == 1) = false := beq_eq_false_iff_ne.2 (by omega)
          have e2 : (cmp == 2) = false := beq_eq_false_iff_ne.2 (by omega)
          have e3 : (cmp == 3) = false := beq_eq_false_iff_ne.2 (by omega)
          have e4 : (cmp == 4) = false := beq_eq_false_iff_ne.2 (by omega)
          have e5 : (cmp == 5) = false := beq_eq_false_iff_ne.2 (by omega)
          have e6 : (cmp == 6) = false := beq_eq_false_iff_ne.2 (by omega)
          have e7 : (cmp == 7) = false := beq_eq_false_iff_ne.2 (by omega)
          have e8 : (cmp == 8) = false := beq_eq_false_iff_ne.2 (by omega)
          have f1 : ¬ (1 ≤ cmp ∧ cmp ≤ 5) := by omega
          have f2 : ¬ (6 ≤ cmp ∧ cmp ≤ 8) := by omega
          have f0 : ¬ cmp = 0 := by omega
          have HR2 := Lib.hid (show false = R by rw [← HR.out]; simp [f0, f1, f2])
          clear f0 f1 f2
          go_wp2_with fail
          go_ret
          exact ⟨by rw [← HR2.out]; rfl, HB1.out⟩
    · have hz2 : 0 < (n1 : Int) := by omega
      have HR2 := Lib.hid (show false = R by rw [← HR.out]; simp [hz])
      clear hz HP HN HXT HC HR
      go_enter Tryz.func78, Tryz.ntmps78
      go_wp2_with fail
      go_ret
      exact ⟨by rw [← HR2.out]; rfl, HB.out⟩
  · have e3 : (op == 3) = false := beq_eq_false_iff_ne.2 h3
    rw [if_neg h3] at HR
    clear HP HN HXT
    by_cases hz : n2 = 0
    rotate_left
    · have hz2 : 0 < (n2 : Int) := by omega
      have HR2 := Lib.hid (show false = R by rw [← HR.out]; simp [hz])
      clear hz HC HR
      go_enter Tryz.func78, Tryz.ntmps78
      go_wp2_with fail
      go_ret
      exact ⟨by rw [← HR2.out]; rfl, HB.out⟩
    subst hz
    cases hn : nm.toList.isEmpty
    · have HR2 := Lib.hid (show false = R by rw [← HR.out, hn]; simp)
      clear HC HR
      go_enter Tryz.func78, Tryz.ntmps78
      go_wp2_with fail
      go_ret
      exact ⟨by rw [← HR2.out]; rfl, HB.out⟩
    by_cases hk : cmp = 0
    rotate_left
    · have e4 : (cmp != 0) = true := by simp [hk]
      have HR2 := Lib.hid (show false = R by rw [← HR.out]; simp [hk])
      clear hk HC HR
      go_enter Tryz.func78, Tryz.ntmps78
      go_wp2_with fail
      go_ret
      exact ⟨by rw [← HR2.out]; rfl, HB.out⟩
    subst hk
    cases ht : txt.toList.isEmpty
    · have HR2 := Lib.hid (show false = R by rw [← HR.out, ht]; simp)
      clear HC HR
      go_enter Tryz.func78, Tryz.ntmps78
      go_wp2_with fail
      go_ret
      exact ⟨by rw [← HR2.out]; rfl, HB.out⟩
    by_cases hu : num = 0
    rotate_left
    · have e4 : (num != 0) = true := by simp [hu]
      have HR2 := Lib.hid (show false = R by rw [← HR.out]; simp [hu])
      clear hu HC HR
      go_enter Tryz.func78, Tryz.ntmps78
      go_wp2_with fail
      go_ret
      exact ⟨by rw [← HR2.out]; rfl, HB.out⟩
    subst hu
    have hC1 := HC.out _ HB.out
    by_cases ho : op = 0
    · subst ho
      by_cases hy : 2 ≤ n1
      · have hy2 : ¬ (n1 : Int) < 2 := by omega
        have HR2 := Lib.hid (show g = R by rw [← HR.out, hn, ht]; simp [lnB, hy])
        clear hy HR
        go_enter Tryz.func78, Tryz.ntmps78
        go_wp2_with fail
        refine hC1.mono ?_
        rintro e w1 ⟨rfl, b1⟩
        have HB1 := Lib.hid (HB.out.trans (b1.mono HB.out.size))
        clear hC1 b1
        go_wp2_with fail
        go_ret
        exact ⟨by rw [← HR2.out]; simp, HB1.out⟩
      · have hy2 : (n1 : Int) < 2 := by omega
        have HR2 := Lib.hid (show false = R by rw [← HR.out, hn, ht]; simp [lnB, hy])
        clear hy HR hC1
        go_enter Tryz.func78, Tryz.ntmps78
        go_wp2_with fail
        go_ret
        exact ⟨by rw [← HR2.out]; rfl, HB.out⟩
    by_cases ho : op = 1
    · subst ho
      by_cases hy : 2 ≤ n1
      · have hy2 : ¬ (n1 : Int) < 2 := by omega
        have HR2 := Lib.hid (show g = R by rw [← HR.out, hn, ht]; simp [lnB, hy])
        clear hy HR
        go_enter Tryz.func78, Tryz.ntmps78
        go_wp2_with fail
        refine hC1.mono ?_
        rintro e w1 ⟨rfl, b1⟩
        have HB1 := Lib.hid (HB.out.trans (b1.mono HB.out.size))
        clear hC1 b1
        go_wp2_with fail
        go_ret
        exact ⟨by rw [← HR2.out]; simp, HB1.out⟩
      · have hy2 : (n1 : Int) < 2 := by omega
        have HR2 := Lib.hid (show false = R by rw [← HR.out, hn, ht]; simp [lnB, hy])
        clear hy HR hC1
        go_enter Tryz.func78, Tryz.ntmps78
        go_wp2_with fail
        go_ret
        exact ⟨by rw [← HR2.out]; rfl, HB.out⟩
    by_cases ho : op = 2
    · subst ho
      by_cases hy : n1 = 1
      · subst hy
        have HR2 := Lib.hid (show g = R by rw [← HR.out, hn, ht]; simp [lnB])
        clear HR
        go_enter Tryz.func78, Tryz.ntmps78
        go_wp2_with fail
        refine hC1.mono ?_
        rintro e w1 ⟨rfl, b1⟩
        have HB1 := Lib.hid (HB.out.trans (b1.mono HB.out.size))
        clear hC1 b1
        go_wp2_with fail
        go_ret
        exact ⟨by rw [← HR2.out]; simp, HB1.out⟩
      · have hy2 : ((n1 : Int) != 1) = true := by simp; omega
        have HR2 := Lib.hid (show false = R by rw [← HR.out, hn, ht]; simp [lnB, hy])
        clear hy HR hC1
        go_enter Tryz.func78, Tryz.ntmps78
        go_wp2_with fail
        go_ret
        exact ⟨by rw [← HR2.out]; rfl, HB.out⟩
    have o0 : (op == 0) = false := beq_eq_false_iff_ne.2 (by omega)
    have o1 : (op == 1) = false := beq_eq_false_iff_ne.2 (by omega)
    have o2 : (op == 2) = false := beq_eq_false_iff_ne.2 (by omega)
    have HR2 := Lib.hid (show false = R by rw [← HR.out, hn, ht]; simp only [lnB]; rw [if_neg (by omega), if_neg (by omega)]; simp)
    clear HR hC1
    go_enter Tryz.func78, Tryz.ntmps78
    go_wp2_with fail
    go_ret
    exact ⟨by rw [← HR2.out]; rfl, HB.out⟩
theorem good_all : ∀ (k : Nat) (x : Ex), SizeOf.sizeOf x ≤ k → wX x ≤ 9223372036854775807 → CEx x := by
  intro k
  induction k with
  | zero => intro x hk; cases x; exact absurd hk (by simp)
  | succ k ih =>
    intro x hk hw
    cases x with
    | mk op args sts nm cmp txt num =>
    unfold wX at hw
    simp only [Ex.mk.sizeOf_spec] at hk
    refine goodExpr_calls op args sts nm cmp txt num (by omega) (by omega) (fun x hx => ?_) fun y hy => ?_
    · obtain ⟨i, hi⟩ := List.mem_iff_getElem?.1 hx
      have h1 := sizeX_mem hi
      have h2 := wX_mem hi
      exact ih x (by omega) (by omega)
    · obtain ⟨i, hi⟩ := List.mem_iff_getElem?.1 hy
      have h1 := sizeT_mem hi
      have h2 := wT_mem hi
      cases y with
      | mk ax ts nm2 wh =>
      unfold wT at h2
      simp only [St.mk.sizeOf_spec] at h1
      refine goodStep_calls ax ts nm2 wh (by omega) fun z hz => ?_
      obtain ⟨j, hj⟩ := List.mem_iff_getElem?.1 hz
      have h3 := sizeX_mem hj
      have h4 := wX_mem hj
      exact ih z (by omega) (by omega)
theorem goodPath_all (sts : List St) (a : Option Addr) (n cap : Nat) (w : World) (hF : FitTS w sts a n cap) (hT : Laid w) (hw : wTL sts ≤ 9223372036854775807) :
    Calls Tryz.prog 24 #[.agg #[.slice a n cap]] w fun e w' => e = .returned (.bool (gdP sts)) ∧ Below w.heap.size w w' :=
  goodPath_calls sts a n cap w hF hT fun y hy => by
    obtain ⟨i, hi⟩ := List.mem_iff_getElem?.1 hy
    have h2 := wT_mem hi
    cases y with
    | mk ax ts nm2 wh =>
    unfold wT at h2
    refine goodStep_calls ax ts nm2 wh (by omega) fun z hz => ?_
    obtain ⟨j, hj⟩ := List.mem_iff_getElem?.1 hz
    have h4 := wX_mem hj
    exact good_all _ z (Nat.le_refl _) (by omega)
end Go.Proofs.YtkhejkfjhddobaaGreatDoor

end

section
namespace Go.Proofs.YtkhejkfjhddobaaGreatDoor
open Go.RowKit Gim
end Go.Proofs.YtkhejkfjhddobaaGreatDoor

end

section
namespace Go.Proofs.YtkhejkfjhddobaaGreatDoor
open Go.RowKit Gim
/-- ask.deepExpr of the expression, wherever it lies -/
def DEx (x : Ex) : Prop := ∀ (W : World) (op : Int) (args : List Ex) (sts : List St) (nm : ByteArray) (cmp : Int) (txt : ByteArray) (num : Int) (a1 : Option Addr) (n1 c1 : Nat) (a2 : Option Addr) (n2 c2 : Nat), x = .mk op args sts nm cmp txt num → FitXS W args a1 n1 c1 → FitTS W sts a2 n2 c2 →
  Calls Tryz.prog 48 #[.agg #[.int .i64 op, .slice a1 n1 c1, .slice a2 n2 c2, .string nm, .int .i64 cmp, .string txt, .int .i64 num]] W fun e w' => e = .returned (.int .i64 (dpX x)) ∧ Below W.heap.size W w'
def DSt : St → Prop
  | .mk _ _ _ wh => ∀ x ∈ wh, DEx x
theorem brk_calls (a b : Int) (w : World) : Calls Tryz.prog 79 #[.int .i64 a, .int .i64 b] w fun e w' => e = .returned (.bool (brB a b)) ∧ w' = w := by
  unfold brB
  by_cases h1 : b = 1
  · subst h1
    by_cases h2 : a = 2
    · subst h2
      go_enter Tryz.func79, Tryz.ntmps79
      go_wp2_with fail
      go_ret
      exact ⟨rfl, rfl⟩
    · have e1 : (a != 2) = true := by simp [h2]
      have HD := Lib.hid (show decide (a ≠ 2) = true by simp [h2])
      clear h2
      go_enter Tryz.func79, Tryz.ntmps79
      go_wp2_with fail
      go_ret
      exact ⟨by rw [HD.out]; rfl, rfl⟩
  · have e0 : (b == 1) = false := beq_eq_false_iff_ne.2 h1
    have HD := Lib.hid (show decide (b = 1) = false by simp [h1])
    clear h1
    by_cases h2 : a = 0
    · subst h2
      go_enter Tryz.func79, Tryz.ntmps79
      go_wp2_with fail
      go_ret
      exact ⟨by rw [HD.out]; simp [Bool.beq_eq_decide_eq], rfl⟩
    · have e2 : (a == 0) = false := beq_eq_false_iff_ne.2 h2
      have HD2 := Lib.hid (show decide (a = 0) = false by simp [h2])
      clear h2
      go_enter Tryz.func79, Tryz.ntmps79
      go_wp2_with fail
      go_ret
      exact ⟨by rw [HD.out, HD2.out]; rfl, rfl⟩
set_option maxRecDepth 100000 in
set_option maxHeartbeats 4000000 in
theorem deepPath_calls (sts : List St) (a : Option Addr) (n cap : Nat) (w : World) (hF : FitTS w sts a n cap) (hw : wTL sts ≤ 1152921504606846976) (hE : ∀ y ∈ sts, DSt y) :
    Calls Tryz.prog 25 #[.agg #[.slice a n cap]] w fun e w' => e = .returned (.int .i64 (dpIn 0 sts)) ∧ Below w.heap.size w w' := by
  have b0 : Below w.heap.size w (w.alloc (.cells #[.slice a n cap] 25)) := (Below.refl _ _).alloc (Nat.le_refl _) _
  have hbx := heap_alloc_new w (.cells #[.slice a n cap] 25)
  obtain ⟨W1, hW1⟩ : ∃ W1, w.alloc (.cells #[.slice a n cap] 25) = W1 := ⟨_, rfl⟩
  rw [hW1] at b0 hbx
  have hcm := hF.cap_le
  have hle := hF.le
  have hnb : n ≤ 9223372036854775807 := by unfold maxLen at hcm; omega
  have HL := Lib.hid hF.len
  have HF := Lib.hid hF
  have HB0 := Lib.hid b0
  have HE := Lib.hid hE
  have HW := Lib.hid hw
  clear hF b0 hE hw
  go_enter Tryz.func25, Tryz.ntmps25
  go_upto_region 1 with fail
  try rw [hW1]
  clear hW1
  have c0 : W1.cell? ⟨w.heap.size, 0, none⟩ = some (.slice a n cap) := by simp [World.cell?, hbx]
  clear hbx
  go_wp2_with fail
  go_loopw [3, 11] (fun s i wr => ∃ (q : Nat) (m : Int), i = .int .i64 q ∧ q ≤ n ∧ s = .int .i64 m ∧ Below w.heap.size w wr ∧ Hid (m = dpIn 0 (sts.take q))) (fun _ i _ => n - (RowKit.intOf i).toNat)
  case atStart => exact ⟨0, 0, rfl, Nat.zero_le _, rfl, HB0.out, Lib.hid (by simp [dpIn])⟩
  case round =>
    obtain ⟨q, m, rfl, hq, rfl, hb, HM⟩ := hrel
    by_cases hqn : q < n
    · have hqn' : (q : Int) < n := by omega
      obtain ⟨b, o, ax, ts, nm, wh, a1, n1, c1, rfl, hbb, hel, d0, d1, d2, d3, hF1⟩ := (HF.out.below hb).elem q hqn
      have hZ := HE.out _ (List.mem_of_getElem? hel)
      have b2 : Below wr.heap.size wr (wr.alloc (.cells #[.int .i64 ax, .int .i64 ts, .string nm, .slice a1 n1 c1] 64)) := (Below.refl _ _).alloc (Nat.le_refl _) _
      have HB2 := Lib.hid (hb.trans (b2.mono hb.size))
      have HF1 := Lib.hid (hF1.below b2)
      have hNX := takeL_next hel
      have hcm1 := hF1.cap_le
      have hle1 := hF1.le
      have hnb1 : n1 ≤ 9223372036854775807 := by unfold maxLen at hcm1; omega
      have HL1 := Lib.hid hF1.len
      have HZ := Lib.hid hZ
      have hwm := wT_mem hel
      have HOUT := Lib.hid (show dpIn 0 (sts.take (q + 1)) = dpXL m wh by
        rw [hNX, dpIn_app, ← HM.out]
        simp only [dpIn, dpT])
      have HBD := Lib.hid (show wXL wh ≤ 1152921504606846976 by
        have h3 := HW.out
        unfold wT at hwm
        omega)
      have HM0 := Lib.hid (show 0 ≤ m by
        rw [HM.out]
        exact (dpIn_le 0 _ (by omega)).1)
      clear hb hF1 hel hNX hcm1 hle1 hZ b2 hwm HM
      go_wp2_with fail
      go_loopw [3, 18] (fun s i wx => ∃ (r : Nat) (m2 : Int), i = .int .i64 r ∧ r ≤ n1 ∧ s = .int .i64 m2 ∧ Below w.heap.size w wx ∧ FitXS wx wh a1 n1 c1 ∧ Hid (m2 = dpXL m (wh.take r))) (fun _ i _ => n1 - (RowKit.intOf i).toNat)
      case atStart => exact ⟨0, m, rfl, Nat.zero_le _, rfl, HB2.out, HF1.out, Lib.hid (by simp [dpXL])⟩
      case round =>
        obtain ⟨r, m2, rfl, hr, rfl, hbx, hFx, HM2⟩ := hrel
        by_cases hrn : r < n1
        · have hrn' : (r : Int) < n1 := by omega
          obtain ⟨bx, ox, op, args, xs, xn, cmp, txt, num, a3, n3, c3, a4, n4, c4, rfl, hbb3, hel, f0, f1, f2, f3, f4, f5, f6, hF3, hF4⟩ := hFx.elem r hrn
          have b3 := (Below.refl wr.heap.size wr).alloc (Nat.le_refl _) (.cells #[.int .i64 op, .slice a3 n3 c3, .slice a4 n4 c4, .string xn, .int .i64 cmp, .string txt, .int .i64 num] 66)
          have hC := HZ.out _ (List.mem_of_getElem? hel) _ op args xs xn cmp txt num a3 n3 c3 a4 n4 c4 rfl (hF3.below b3) (hF4.below b3)
          have HB3 := Lib.hid (hbx.trans (b3.mono hbx.size))
          have HF3 := Lib.hid (hFx.below b3)
          have hNX := takeL_next hel
          have hwm := wX_mem hel
          obtain ⟨x, hx⟩ : ∃ x, Ex.mk op args xs xn cmp txt num = x := ⟨_, rfl⟩
          rw [hx] at hC hNX hwm hel
          have HN := Lib.hid (show dpXL m (wh.take (r + 1)) = max m2 (1 + dpX x) by
            rw [hNX, dpXL_app, ← HM2.out]
            simp only [dpXL])
          have hd := dpX_le x
          have hbd := HBD.out
          obtain ⟨s2, hs2⟩ : ∃ s2, dpX x = s2 := ⟨_, rfl⟩
          rw [hs2] at hC hd HN
          have hw : wrap64 ((1 : Int) + s2) = 1 + s2 := by unfold wrap64; omega
          have HMX := Lib.hid (show (if m2 < 1 + s2 then 1 + s2 else m2) = max m2 (1 + s2) by split <;> omega)
          clear hbx hFx hNX hel hwm hx HM2 hF3 hF4 b3 hbd hs2 hd
          go_wp2_with fail
          refine hC.mono ?_
          rintro e w3 ⟨rfl, b4⟩
          have HB4 := Lib.hid (HB3.out.trans (b4.mono HB3.out.size))
          have HF4 := Lib.hid (HF3.out.below b4)
          clear hC b4 f0 f1 f2 f3 f4 f5 f6
          go_wp2_with fail
          go_roundw
          case rel => exact ⟨r + 1, max m2 (1 + s2), by go_num, by omega, by first | rfl | (rw [HMX.out]) | (simp only [HMX.out]), HB4.out, HF4.out, Lib.hid HN.out.symm⟩
          case measure => simp [RowKit.intOf]; omega
        · obtain rfl : r = n1 := by omega
          have HE2 := Lib.hid (show m2 = dpXL m wh by rw [HM2.out, List.take_of_length_le (by rw [HL1.out]; exact Nat.le_refl _)])
          have HB4 := Lib.hid hbx
          clear HM2 hbx hFx
          go_wp2_with fail
          go_roundw
          case rel => exact ⟨q + 1, m2, by go_num, by omega, rfl, HB4.out, Lib.hid (HE2.out.trans HOUT.out.symm)⟩
          case measure => simp [RowKit.intOf]; omega
    · obtain rfl : q = n := by omega
      have HE3 := Lib.hid (show m = dpIn 0 sts by
        have h := HM.out
        rw [List.take_of_length_le (by rw [HL.out]; exact Nat.le_refl _)] at h
        exact h)
      have HB4 := Lib.hid hb
      clear HM hb
      go_wp2_with fail
      go_ret
      exact ⟨by rw [← HE3.out]; rfl, HB4.out⟩
set_option maxRecDepth 100000 in
set_option maxHeartbeats 8000000 in
theorem deepExpr_calls (op : Int) (args : List Ex) (sts : List St) (nm : ByteArray) (cmp : Int) (txt : ByteArray) (num : Int) (hw : wX (.mk op args sts nm cmp txt num) ≤ 1152921504606846976) (hlen : op = 2 → args.length = 1) (hA : op ≠ 3 → ∀ x ∈ args, DEx x) (hS : op = 3 → ∀ y ∈ sts, DSt y) : DEx (.mk op args sts nm cmp txt num) := by
  intro w op' args' sts' nm' cmp' txt' num' a1 n1 c1 a2 n2 c2 he hF1 hF2
  obtain ⟨rfl, rfl, rfl, rfl, rfl, rfl, rfl⟩ := Ex.mk.inj he
  clear he
  have b0 : Below w.heap.size w (w.alloc (.cells #[.int .i64 op, .slice a1 n1 c1, .slice a2 n2 c2, .string nm, .int .i64 cmp, .string txt, .int .i64 num] 66)) := (Below.refl _ _).alloc (Nat.le_refl _) _
  have hbx := heap_alloc_new w (.cells #[.int .i64 op, .slice a1 n1 c1, .slice a2 n2 c2, .string nm, .int .i64 cmp, .string txt, .int .i64 num] 66)
  have hlt : w.heap.size < (w.alloc (.cells #[.int .i64 op, .slice a1 n1 c1, .slice a2 n2 c2, .string nm, .int .i64 cmp, .string txt, .int .i64 num] 66)).heap.size := by simp
  obtain ⟨W1, hW1⟩ : ∃ W1, w.alloc (.cells #[.int .i64 op, .slice a1 n1 c1, .slice a2 n2 c2, .string nm, .int .i64 cmp, .string txt, .int .i64 num] 66) = W1 := ⟨_, rfl⟩
  rw [hW1] at b0 hbx hlt
  have hse : dpX (.mk op args sts nm cmp txt num) = if op = 3 then (if 3 ≤ cmp then dpIn 0 sts + 1 else dpIn 0 sts) else if op = 2 then dpHd args else dpA op 0 args := by unfold dpX; rfl
  rw [hse]
  unfold wX at hw
  have hcm := hF1.cap_le
  have hle := hF1.le
  have hnb : n1 ≤ 9223372036854775807 := by unfold maxLen at hcm; omega
  have HB0 := Lib.hid b0
  have HBX := Lib.hid hbx
  have HLT := Lib.hid hlt
  have k0 : W1.cell? ⟨w.heap.size, 0, none⟩ = some (.int .i64 op) := by simp [World.cell?, hbx]
  have k1 : W1.cell? ⟨w.heap.size, 1, none⟩ = some (.slice a1 n1 c1) := by simp [World.cell?, hbx]
  have k2 : W1.cell? ⟨w.heap.size, 2, none⟩ = some (.slice a2 n2 c2) := by simp [World.cell?, hbx]
  by_cases h3 : op = 3
  · have hP := deepPath_calls sts a2 n2 c2 W1 (hF2.below b0) (by omega) (hS h3)
    have hd := dpIn_le 0 sts (by omega)
    subst h3
    rw [if_pos rfl]
    obtain ⟨d, hdd⟩ : ∃ d, dpIn 0 sts = d := ⟨_, rfl⟩
    rw [hdd] at hP hd ⊢
    have hwp : wrap64 (d + 1) = d + 1 := by unfold wrap64; omega
    clear hF1 hF2 b0 hA hS hw hse hcm hle hbx hlen hlt hdd hd
    by_cases hc : 3 ≤ cmp
    · rw [if_pos hc]
      go_enter Tryz.func48, Tryz.ntmps48
      go_upto_region 1 with fail
      try rw [hW1]
      clear hW1
      go_wp2_with fail
      refine hP.mono ?_
      rintro e w2 ⟨rfl, b2⟩
      have hx := (b2.block _ (Array.getElem?_eq_some_iff.1 HBX.out).1).trans HBX.out
      have k4 : w2.cell? ⟨w.heap.size, 4, none⟩ = some (.int .i64 cmp) := by simp [World.cell?, hx]
      have HB2 := Lib.hid (HB0.out.trans (b2.mono HB0.out.size))
      clear hP b2 hx k0 k1 k2
      go_wp2_with fail
      go_ret
      exact ⟨by first | rfl | (simp only [hwp]; rfl) | (rw [← hwp]; rfl), HB2.out⟩
    · rw [if_neg hc]
      go_enter Tryz.func48, Tryz.ntmps48
      go_upto_region 1 with fail
      try rw [hW1]
      clear hW1
      go_wp2_with fail
      refine hP.mono ?_
      rintro e w2 ⟨rfl, b2⟩
      have hx := (b2.block _ (Array.getElem?_eq_some_iff.1 HBX.out).1).trans HBX.out
      have k4 : w2.cell? ⟨w.heap.size, 4, none⟩ = some (.int .i64 cmp) := by simp [World.cell?, hx]
      have HB2 := Lib.hid (HB0.out.trans (b2.mono HB0.out.size))
      clear hP b2 hx k0 k1 k2
      go_wp2_with fail
      go_ret
      exact ⟨rfl, HB2.out⟩
  · have e3 : (op == 3) = false := beq_eq_false_iff_ne.2 h3
    have HE := Lib.hid (hA h3)
    rw [if_neg h3]
    have HF1 := Lib.hid (hF1.below b0)
    by_cases h2 : op = 2
    · rw [if_pos h2]
      have hl := hlen h2
      subst h2
      have hln : n1 = 1 := by rw [← hF1.len]; exact hl
      subst hln
      clear e3 h3
      match args, hl, hF1, HE, HF1, hw with
      | [y], _, hF1, HE, HF1, hw =>
      have hq : (0 : Nat) < 1 := by omega
      obtain ⟨bx, ox, op2, args2, xs, xn, cmp2, txt2, num2, a3, n3, c3, a4, n4, c4, rfl, hbb3, hel, f0, f1, f2, f3, f4, f5, f6, hF3, hF4⟩ := HF1.out.elem 0 hq
      simp only [List.getElem?_cons_zero, Option.some.injEq] at hel
      have hC := HE.out y (by simp) W1 op2 args2 xs xn cmp2 txt2 num2 a3 n3 c3 a4 n4 c4 hel hF3 hF4
      have hd := dpX_le y
      have hwy : wX y ≤ 1152921504606846976 := by unfold wXL at hw; omega
      have HH := Lib.hid (show dpHd [y] = 1 + dpX y by simp [dpHd])
      obtain ⟨s2, hs2⟩ : ∃ s2, dpX y = s2 := ⟨_, rfl⟩
      rw [hs2] at hC hd HH
      have hwp : wrap64 ((1 : Int) + s2) = 1 + s2 := by unfold wrap64; omega
      simp only [Nat.zero_mul, Nat.add_zero] at f0 f1 f2 f3 f4 f5 f6
      clear hF1 hF2 b0 hA hS hw hse hcm hle hbx hlen hlt hd hel hwy hs2 hF3 hF4
      go_enter Tryz.func48, Tryz.ntmps48
      go_upto_region 1 with fail
      try rw [hW1]
      clear hW1
      go_wp2_with fail
      refine hC.mono ?_
      rintro e w2 ⟨rfl, b2⟩
      have HB2 := Lib.hid (HB0.out.trans (b2.mono HB0.out.size))
      clear hC b2 k0 k1 k2 f0 f1 f2 f3 f4 f5 f6
      go_wp2_with fail
      go_ret
      exact ⟨by rw [HH.out]; first | rfl | (simp only [hwp]; rfl) | (rw [← hwp]; rfl), HB2.out⟩
    · have e2 : (op == 2) = false := beq_eq_false_iff_ne.2 h2
      rw [if_neg h2]
      have HL := Lib.hid hF1.len
      have HW := Lib.hid (show wXL args ≤ 1152921504606846976 by omega)
      clear hF1 hF2 b0 hA hS hw hse hcm hle hbx hlen hlt h2 h3
      go_enter Tryz.func48, Tryz.ntmps48
      go_upto_region 1 with fail
      try rw [hW1]
      clear hW1
      go_wp2_with fail
      go_loopw [4, 32] (fun s i wr => ∃ (q : Nat) (m : Int), i = .int .i64 q ∧ q ≤ n1 ∧ s = .int .i64 m ∧ Below W1.heap.size W1 wr ∧ Hid (m = dpA op 0 (args.take q))) (fun _ i _ => n1 - (RowKit.intOf i).toNat)
      case atStart => exact ⟨0, 0, rfl, Nat.zero_le _, rfl, Below.refl _ _, Lib.hid (by simp [dpA])⟩
      case round =>
        obtain ⟨q, m, rfl, hq, rfl, hb, HM⟩ := hrel
        by_cases hqn : q < n1
        · have hqn' : (q : Int) < n1 := by omega
          obtain ⟨bx, ox, op2, args2, xs, xn, cmp2, txt2, num2, a3, n3, c3, a4, n4, c4, rfl, hbb3, hel, f0, f1, f2, f3, f4, f5, f6, hF3, hF4⟩ := (HF1.out.below hb).elem q hqn
          have b3 := (Below.refl wr.heap.size wr).alloc (Nat.le_refl _) (.cells #[.int .i64 op2, .slice a3 n3 c3, .slice a4 n4 c4, .string xn, .int .i64 cmp2, .string txt2, .int .i64 num2] 66)
          have x3 := heap_alloc_new wr (.cells #[.int .i64 op2, .slice a3 n3 c3, .slice a4 n4 c4, .string xn, .int .i64 cmp2, .string txt2, .int .i64 num2] 66)
          have hC := HE.out _ (List.mem_of_getElem? hel) _ op2 args2 xs xn cmp2 txt2 num2 a3 n3 c3 a4 n4 c4 rfl (hF3.below b3) (hF4.below b3)
          have HB3 := Lib.hid (hb.trans (b3.mono hb.size))
          have HX3 := Lib.hid x3
          have hNX := takeL_next hel
          have hwm := wX_mem hel
          have HOP := Lib.hid (show opX (.mk op2 args2 xs xn cmp2 txt2 num2) = op2 by simp [opX])
          obtain ⟨x, hx⟩ : ∃ x, Ex.mk op2 args2 xs xn cmp2 txt2 num2 = x := ⟨_, rfl⟩
          rw [hx] at hC hNX hel hwm HOP
          have HN := Lib.hid (show dpA op 0 (args.take (q + 1)) = max m (if brB op op2 = true then dpX x + 1 else dpX x) by
            rw [hNX, dpA_app, ← HM.out]
            simp only [dpA, HOP.out])
          have hd := dpX_le x
          have hbd := HW.out
          have hm0 : 0 ≤ m := by rw [HM.out]; exact (dpA_le op 0 _ (by omega)).1
          have hBR := fun W => brk_calls op op2 W
          obtain ⟨s2, hs2⟩ : ∃ s2, dpX x = s2 := ⟨_, rfl⟩
          obtain ⟨br, hbr⟩ : ∃ br, brB op op2 = br := ⟨_, rfl⟩
          rw [hs2] at hC hd HN
          simp only [hbr] at hBR HN
          have hw : wrap64 (s2 + 1) = s2 + 1 := by unfold wrap64; omega
          clear hb hNX hel hx HM hF3 hF4 b3 hbd hs2 x3 hd hwm hbr HOP
          cases br
          · have HMX := Lib.hid (show (if m < s2 then s2 else m) = max m s2 by split <;> omega)
            go_wp2_with fail
            refine hC.mono ?_
            rintro e w3 ⟨rfl, b4⟩
            have hx4 := (b4.block _ (Array.getElem?_eq_some_iff.1 HX3.out).1).trans HX3.out
            have j0 : w3.cell? ⟨wr.heap.size, 0, none⟩ = some (.int .i64 op2) := by simp [World.cell?, hx4]
            have HB4 := Lib.hid (HB3.out.trans (b4.mono HB3.out.size))
            have hx5 := (HB4.out.block _ HLT.out).trans HBX.out
            have j1 : w3.cell? ⟨w.heap.size, 0, none⟩ = some (.int .i64 op) := by simp [World.cell?, hx5]
            clear hC b4 f0 f1 f2 f3 f4 f5 f6 hx4 hx5
            go_wp2_with fail
            refine (hBR _).mono ?_
            rintro e w4 ⟨rfl, rfl⟩
            go_wp2_with fail
            go_roundw
            case rel => exact ⟨q + 1, max m s2, by go_num, by omega, by first | rfl | (rw [HMX.out]) | (simp only [HMX.out]), HB4.out, Lib.hid (by rw [HN.out]; simp)⟩
            case measure => simp [RowKit.intOf]; omega
          · have HMX := Lib.hid (show (if m < s2 + 1 then s2 + 1 else m) = max m (s2 + 1) by split <;> omega)
            go_wp2_with fail
            refine hC.mono ?_
            rintro e w3 ⟨rfl, b4⟩
            have hx4 := (b4.block _ (Array.getElem?_eq_some_iff.1 HX3.out).1).trans HX3.out
            have j0 : w3.cell? ⟨wr.heap.size, 0, none⟩ = some (.int .i64 op2) := by simp [World.cell?, hx4]
            have HB4 := Lib.hid (HB3.out.trans (b4.mono HB3.out.size))
            have hx5 := (HB4.out.block _ HLT.out).trans HBX.out
            have j1 : w3.cell? ⟨w.heap.size, 0, none⟩ = some (.int .i64 op) := by simp [World.cell?, hx5]
            clear hC b4 f0 f1 f2 f3 f4 f5 f6 hx4 hx5
            go_wp2_with fail
            refine (hBR _).mono ?_
            rintro e w4 ⟨rfl, rfl⟩
            go_wp2_with fail
            go_roundw
            case rel => exact ⟨q + 1, max m (s2 + 1), by go_num, by omega, by first | rfl | (rw [HMX.out]) | (simp only [HMX.out]), HB4.out, Lib.hid (by rw [HN.out]; simp)⟩
            case measure => simp [RowKit.intOf]; omega
        · obtain rfl : q = n1 := by omega
          have HE3 := Lib.hid (show m = dpA op 0 args by
            have h := HM.out
            rw [List.take_of_length_le (by rw [HL.out]; exact Nat.le_refl _)] at h
            exact h)
          have HB4 := Lib.hid (HB0.out.trans (hb.mono HB0.out.size))
          clear HM hb
          go_wp2_with fail
          go_ret
          exact ⟨by rw [← HE3.out]; rfl, HB4.out⟩
end Go.Proofs.YtkhejkfjhddobaaGreatDoor
namespace Gim
theorem gdXL_mem : ∀ {l : List Ex}, gdXL l = true → ∀ x ∈ l, gdX x = true
  | [], _, x, h => by cases h
  | y :: r, h, x, hx => by
    unfold gdXL at h
    rw [Bool.and_eq_true] at h
    rcases List.mem_cons.1 hx with e | e
    · rw [e]; exact h.1
    · exact gdXL_mem h.2 x e
theorem gdTL_mem : ∀ {l : List St}, gdTL l = true → ∀ x ∈ l, gdT x = true
  | [], _, x, h => by cases h
  | y :: r, h, x, hx => by
    unfold gdTL at h
    rw [Bool.and_eq_true] at h
    rcases List.mem_cons.1 hx with e | e
    · rw [e]; exact h.1
    · exact gdTL_mem h.2 x e
end Gim
namespace Go.Proofs.YtkhejkfjhddobaaGreatDoor
open Go.RowKit Gim
theorem deep_all : ∀ (k : Nat) (x : Ex), SizeOf.sizeOf x ≤ k → wX x ≤ 1152921504606846976 → gdX x = true → DEx x := by
  intro k
  induction k with
  | zero => intro x hk; cases x; exact absurd hk (by simp)
  | succ k ih =>
    intro x hk hw hg
    cases x with
    | mk op args sts nm cmp txt num =>
    have hw2 := hw
    unfold wX at hw
    simp only [Ex.mk.sizeOf_spec] at hk
    unfold gdX at hg
    refine deepExpr_calls op args sts nm cmp txt num hw2 (fun h2 => ?_) (fun h3 x hx => ?_) fun h3 y hy => ?_
    · subst h2
      simp [lnB] at hg
      exact hg.2.2.2.2.2.1
    · rw [if_neg h3] at hg
      simp only [Bool.and_eq_true] at hg
      obtain ⟨i, hi⟩ := List.mem_iff_getElem?.1 hx
      have h1 := sizeX_mem hi
      have h2 := wX_mem hi
      exact ih x (by omega) (by omega) (gdXL_mem hg.2.2.2.2.2.2 x hx)
    · rw [if_pos h3] at hg
      simp only [Bool.and_eq_true] at hg
      have hgy := gdTL_mem hg.2.1.2 y hy
      obtain ⟨i, hi⟩ := List.mem_iff_getElem?.1 hy
      have h1 := sizeT_mem hi
      have h2 := wT_mem hi
      cases y with
      | mk ax ts nm2 wh =>
      unfold wT at h2
      unfold gdT at hgy
      simp only [Bool.and_eq_true] at hgy
      simp only [St.mk.sizeOf_spec] at h1
      intro z hz
      obtain ⟨j, hj⟩ := List.mem_iff_getElem?.1 hz
      have h3 := sizeX_mem hj
      have h4 := wX_mem hj
      exact ih z (by omega) (by omega) (gdXL_mem hgy.2.2 z hz)
theorem deepPath_all (sts : List St) (a : Option Addr) (n cap : Nat) (w : World) (hF : FitTS w sts a n cap) (hw : wTL sts ≤ 1152921504606846976) (hg : gdP sts = true) :
    Calls Tryz.prog 25 #[.agg #[.slice a n cap]] w fun e w' => e = .returned (.int .i64 (dpIn 0 sts)) ∧ Below w.heap.size w w' :=
  deepPath_calls sts a n cap w hF hw fun y hy => by
    unfold gdP at hg
    rw [Bool.and_eq_true] at hg
    have hgy := gdTL_mem hg.2 y hy
    obtain ⟨i, hi⟩ := List.mem_iff_getElem?.1 hy
    have h2 := wT_mem hi
    cases y with
    | mk ax ts nm2 wh =>
    unfold wT at h2
    unfold gdT at hgy
    simp only [Bool.and_eq_true] at hgy
    intro z hz
    obtain ⟨j, hj⟩ := List.mem_iff_getElem?.1 hz
    have h4 := wX_mem hj
    exact deep_all _ z (Nat.le_refl _) (by omega) (gdXL_mem hgy.2.2 z hz)
end Go.Proofs.YtkhejkfjhddobaaGreatDoor

end

section
namespace Go.Proofs.YtkhejkfjhddobaaGreatDoor
open Go.RowKit Gim
def RX (k : Nat) : Prop := ∀ (xs : List Ex) (a : Option Addr) (n cap : Nat) (nn : Int) (w : World), SizeOf.sizeOf xs ≤ k → FitXS w xs a n cap → wXL xs ≤ 1152921504606846976 → -2305843009213693952 ≤ nn → nn ≤ 1048576 →
  Calls Tryz.prog 65 #[.slice a n cap, .int .i64 nn] w fun e w' => e = .returned (.int .i64 (restXL xs nn)) ∧ Drew w w'
def RT (k : Nat) : Prop := ∀ (xs : List St) (a : Option Addr) (n cap : Nat) (nn : Int) (w : World), SizeOf.sizeOf xs ≤ k → FitTS w xs a n cap → wTL xs ≤ 1152921504606846976 → -2305843009213693952 ≤ nn → nn ≤ 1048576 →
  Calls Tryz.prog 39 #[.slice a n cap, .int .i64 nn] w fun e w' => e = .returned (.int .i64 (restTL xs nn)) ∧ Drew w w'
set_option maxRecDepth 100000 in
set_option maxHeartbeats 8000000 in
theorem rx_next (k : Nat) (hX : RX k) (hT : RT k) : RX (k + 1) := by
  intro xs a n cap nn w hk hF hw hn0 hn1
  have hcm := hF.cap_le
  have hle := hF.le
  have hnb : n ≤ 9223372036854775807 := by unfold maxLen at hcm; omega
  have HL := Lib.hid hF.len
  have HF := Lib.hid hF
  have HK := Lib.hid hk
  have HW := Lib.hid hw
  have HX := Lib.hid hX
  have HT := Lib.hid hT
  have HN1 := Lib.hid hn1
  clear hF hk hw hX hT hn0 hn1
  go_enter Tryz.func65, Tryz.ntmps65
  go_wp2_with fail
  go_loopw [1, 5] (fun s i wr => ∃ (q : Nat) (m : Int), i = .int .i64 q ∧ q ≤ n ∧ s = .int .i64 m ∧ Drew w wr ∧ Hid (m = restXL (xs.take q) nn)) (fun _ i _ => n - (RowKit.intOf i).toNat)
  case atStart => exact ⟨0, nn, rfl, Nat.zero_le _, rfl, Drew.refl _, Lib.hid (by simp [restXL])⟩
  case round =>
    obtain ⟨q, m, rfl, hq, rfl, hd, HM⟩ := hrel
    by_cases hqn : q < n
    · have hqn' : (q : Int) < n := by omega
      by_cases hm : 0 ≤ m
      · obtain ⟨b, o, op, args, sts, nm, cmp, txt, num, a1, n1, c1, a2, n2, c2, rfl, hbb, hel, f0, f1, f2, f3, f4, f5, f6, hF1, hF2⟩ := (HF.out.below (hd.below _)).elem q hqn
        have hsm := sizeX_mem hel
        have hwm := wX_mem hel
        simp only [Ex.mk.sizeOf_spec] at hsm
        unfold wX at hwm
        have hNX := takeL_next hel
        have HN := Lib.hid (show restXL (xs.take (q + 1)) nn = restTL sts (restXL args (m - 1 - nm.size - txt.size)) by
          rw [hNX, restXL_app, ← HM.out]
          simp only [restXL, restX]
          rw [if_pos hm])
        have hmn : m ≤ 1048576 := by have h1 := (restXL_le (xs.take q) nn).2.1; rw [← HM.out] at h1; have h2 := HN1.out; omega
        have hwt := HW.out
        have hrl := restXL_le args (m - 1 - nm.size - txt.size)
        have HC1 := Lib.hid (fun j => HX.out args a1 n1 c1 (m - 1 - nm.size - txt.size) (wr.drewN j) (by have := HK.out; omega) (hF1.below (((Drew.refl wr).drewN j).below _)) (by omega) (by omega) (by omega))
        have HC2 := Lib.hid (fun j => HT.out sts a2 n2 c2 (restXL args (m - 1 - nm.size - txt.size)) (wr.drewN j) (by have := HK.out; omega) (hF2.below (((Drew.refl wr).drewN j).below _)) (by omega) (by omega) (by omega))
        have hw1 : wrap64 (m - 1) = m - 1 := by unfold wrap64; omega
        have hw2 : wrap64 (m - 1 - (nm.size : Int)) = m - 1 - nm.size := by unfold wrap64; omega
        have hw3 : wrap64 (m - 1 - (nm.size : Int) - (txt.size : Int)) = m - 1 - nm.size - txt.size := by unfold wrap64; omega
        obtain ⟨s1, hs1⟩ : ∃ s1, restXL args (m - 1 - nm.size - txt.size) = s1 := ⟨_, rfl⟩
        rw [hs1] at HN
        simp only [hs1] at HC1 HC2
        obtain ⟨s2, hs2⟩ : ∃ s2, restTL sts s1 = s2 := ⟨_, rfl⟩
        rw [hs2] at HN
        simp only [hs2] at HC2
        clear hel hsm hwm hNX HM hrl hs1 hs2 hF1 hF2 hwt hbb
        go_wp2
        go_quiet (first | (with_reducible exact Calls.quiet_of (HC1.out _)) | (with_reducible exact Calls.quiet_of (HC2.out _)))
        go_wp2
        go_roundw
        case rel => exact ⟨q + 1, s2, by go_num, by omega, rfl, hd.drewN _, Lib.hid HN.out.symm⟩
        case measure => simp [RowKit.intOf]; omega
      · have HE := Lib.hid (show m = restXL xs nn by
          have h1 := restXL_app (xs.take q) (xs.drop q) nn
          rw [List.take_append_drop, ← HM.out, restXL_neg (xs.drop q) m (by omega)] at h1
          exact h1.symm)
        have hm' : ¬ 0 ≤ m := hm
        clear HM
        go_wp2_with fail
        go_ret
        exact ⟨by rw [← HE.out]; rfl, hd⟩
    · obtain rfl : q = n := by omega
      have HE := Lib.hid (show m = restXL xs nn by
        have h := HM.out
        rw [List.take_of_length_le (by rw [HL.out]; exact Nat.le_refl _)] at h
        exact h)
      clear HM
      go_wp2_with fail
      go_ret
      exact ⟨by rw [← HE.out]; rfl, hd⟩
set_option maxRecDepth 100000 in
set_option maxHeartbeats 8000000 in
theorem rt_next (k : Nat) (hX : RX k) (hT : RT k) : RT (k + 1) := by
  intro xs a n cap nn w hk hF hw hn0 hn1
  have hcm := hF.cap_le
  have hle := hF.le
  have hnb : n ≤ 9223372036854775807 := by unfold maxLen at hcm; omega
  have HL := Lib.hid hF.len
  have HF := Lib.hid hF
  have HK := Lib.hid hk
  have HW := Lib.hid hw
  have HX := Lib.hid hX
  have HT := Lib.hid hT
  have HN1 := Lib.hid hn1
  clear hF hk hw hX hT hn0 hn1
  go_enter Tryz.func39, Tryz.ntmps39
  go_wp2_with fail
  go_loopw [1, 5] (fun s i wr => ∃ (q : Nat) (m : Int), i = .int .i64 q ∧ q ≤ n ∧ s = .int .i64 m ∧ Drew w wr ∧ Hid (m = restTL (xs.take q) nn)) (fun _ i _ => n - (RowKit.intOf i).toNat)
  case atStart => exact ⟨0, nn, rfl, Nat.zero_le _, rfl, Drew.refl _, Lib.hid (by simp [restTL])⟩
  case round =>
    obtain ⟨q, m, rfl, hq, rfl, hd, HM⟩ := hrel
    by_cases hqn : q < n
    · have hqn' : (q : Int) < n := by omega
      by_cases hm : 0 ≤ m
      · obtain ⟨b, o, ax, ts, nm, wh, a1, n1, c1, rfl, hbb, hel, d0, d1, d2, d3, hF1⟩ := (HF.out.below (hd.below _)).elem q hqn
        have hsm := sizeT_mem hel
        have hwm := wT_mem hel
        simp only [St.mk.sizeOf_spec] at hsm
        unfold wT at hwm
        have hNX := takeL_next hel
        have HN := Lib.hid (show restTL (xs.take (q + 1)) nn = restXL wh (m - 1 - nm.size) by
          rw [hNX, restTL_app, ← HM.out]
          simp only [restTL, restT]
          rw [if_pos hm])
        have hmn : m ≤ 1048576 := by have h1 := (restTL_le (xs.take q) nn).2.1; rw [← HM.out] at h1; have h2 := HN1.out; omega
        have hwt := HW.out
        have HC1 := Lib.hid (fun j => HX.out wh a1 n1 c1 (m - 1 - nm.size) (wr.drewN j) (by have := HK.out; omega) (hF1.below (((Drew.refl wr).drewN j).below _)) (by omega) (by omega) (by omega))
        have hw1 : wrap64 (m - 1) = m - 1 := by unfold wrap64; omega
        have hw2 : wrap64 (m - 1 - (nm.size : Int)) = m - 1 - nm.size := by unfold wrap64; omega
        obtain ⟨s2, hs2⟩ : ∃ s2, restXL wh (m - 1 - nm.size) = s2 := ⟨_, rfl⟩
        rw [hs2] at HN
        simp only [hs2] at HC1
        clear hel hsm hwm hNX HM hs2 hF1 hwt hbb
        go_wp2
        go_quiet (with_reducible exact Calls.quiet_of (HC1.out _))
        go_wp2
        go_roundw
        case rel => exact ⟨q + 1, s2, by go_num, by omega, rfl, hd.drewN _, Lib.hid HN.out.symm⟩
        case measure => simp [RowKit.intOf]; omega
      · have HE := Lib.hid (show m = restTL xs nn by
          have h1 := restTL_app (xs.take q) (xs.drop q) nn
          rw [List.take_append_drop, ← HM.out, restTL_neg (xs.drop q) m (by omega)] at h1
          exact h1.symm)
        have hm' : ¬ 0 ≤ m := hm
        clear HM
        go_wp2_with fail
        go_ret
        exact ⟨by rw [← HE.out]; rfl, hd⟩
    · obtain rfl : q = n := by omega
      have HE := Lib.hid (show m = restTL xs nn by
        have h := HM.out
        rw [List.take_of_length_le (by rw [HL.out]; exact Nat.le_refl _)] at h
        exact h)
      clear HM
      go_wp2_with fail
      go_ret
      exact ⟨by rw [← HE.out]; rfl, hd⟩
theorem rest_all : ∀ k, RX k ∧ RT k
  | 0 => ⟨fun xs _ _ _ _ _ hk => absurd hk (by cases xs <;> simp), fun xs _ _ _ _ _ hk => absurd hk (by cases xs <;> simp)⟩
  | k + 1 => ⟨rx_next k (rest_all k).1 (rest_all k).2, rt_next k (rest_all k).1 (rest_all k).2⟩
theorem great_calls (sts : List St) (a : Option Addr) (n cap : Nat) (w : World) (hF : FitTS w sts a n cap) (hw : wTL sts ≤ 1152921504606846976) :
    Calls Tryz.prog 17 #[.agg #[.slice a n cap]] w fun e w' => e = .returned (.bool (decide (restTL sts 262144 < 0))) ∧ Below w.heap.size w w' := by
  have b0 : Below w.heap.size w (w.alloc (.cells #[.slice a n cap] 25)) := (Below.refl _ _).alloc (Nat.le_refl _) _
  have hC := (rest_all _).2 sts a n cap 262144 _ (Nat.le_refl _) (hF.below b0) hw (by omega) (by omega)
  obtain ⟨r, hr⟩ : ∃ r, restTL sts 262144 = r := ⟨_, rfl⟩
  rw [hr] at hC ⊢
  have HB := Lib.hid b0
  clear hr hF b0 hw
  go_enter Tryz.func17, Tryz.ntmps17
  go_wp2_with fail
  refine hC.mono ?_
  rintro e w1 ⟨rfl, d1⟩
  have HB1 := Lib.hid (HB.out.trans ((d1.below _).mono HB.out.size))
  clear hC d1
  go_wp2_with fail
  go_ret
  exact ⟨rfl, HB1.out⟩
end Go.Proofs.YtkhejkfjhddobaaGreatDoor

end

section
namespace Gim
open Go Go.RowKit
def okP (sts : List St) : Bool := gdP sts && decide (dpIn 0 sts ≤ 200)
def szP (sts : List St) : Nat := sts.length + szIn sts
theorem szP_le (sts : List St) : szP sts ≤ wTL sts := szIn_le sts
theorem sq_small {s K : Nat} (hs : s ≤ 262144) (hK : K ≤ 1600016) : s * s ≤ 68719476736 ∧ K * s ≤ 419434594304 ∧ K * (s * s) ≤ 109952262289227776 ∧ K * s * s = K * (s * s) := by
  have h1 := Nat.mul_le_mul hs hs
  have h2 := Nat.mul_le_mul hK hs
  have h3 := Nat.mul_le_mul hK h1
  exact ⟨h1, h2, h3, Nat.mul_assoc K s s⟩
theorem wrapU (x : Int) (h : 0 ≤ x) (h2 : x < 18446744073709551616) : IntKind.u64.wrap x = x := by
  simp [IntKind.wrap, IntKind.bits, IntKind.signed]
  omega
theorem wrapI (x : Int) (h : 0 ≤ x) (h2 : x < 9223372036854775808) : IntKind.i64.wrap x = x := by
  simp [IntKind.wrap, IntKind.bits, IntKind.signed]
  omega
theorem wrap64s (x : Int) (h : 0 ≤ x) (h2 : x < 9223372036854775808) : wrap64 x = x := by
  unfold wrap64
  omega
theorem bound_facts {s D K P T : Nat} (hs : s ≤ 262144) (hD : D ≤ 100000) (hK : 16 * (D + 1) = K) (hP : P ≤ 68719476736) (hT : T ≤ 109952262289227776) :
    IntKind.u64.wrap (s : Int) = s ∧ wrap64 ((D : Int) + 1) = D + 1 ∧ IntKind.u64.wrap ((D : Int) + 1) = D + 1 ∧ IntKind.u64.wrap (16 * ((D : Int) + 1)) = K ∧ IntKind.i64.wrap (T : Int) = T ∧ ¬ 4611686018427387904 < (P : Int) ∧ ¬ 4611686018427387904 < (T : Int) :=
  ⟨wrapU _ (by omega) (by omega), wrap64s _ (by omega) (by omega), wrapU _ (by omega) (by omega), (wrapU _ (by omega) (by omega)).trans (by omega), wrapI _ (by omega) (by omega), by omega, by omega⟩
end Gim
namespace Go.Proofs.YtkhejkfjhddobaaGreatDoor
open Go.RowKit Gim
theorem askCheck_calls (sts : List St) (a : Option Addr) (n cap : Nat) (w : World) (hF : FitTS w sts a n cap) (hw : wTL sts ≤ 1152921504606846976) (hT : Laid w) :
    Calls Tryz.prog 10 #[.agg #[.slice a n cap]] w fun e w' => e = .returned (.int .i64 (if okP sts = true then 0 else 6)) ∧ Below w.heap.size w w' := by
  have b0 : Below w.heap.size w (w.alloc (.cells #[.slice a n cap] 25)) := (Below.refl _ _).alloc (Nat.le_refl _) _
  have x0 := heap_alloc_new w (.cells #[.slice a n cap] 25)
  have hP := goodPath_all sts a n cap _ (hF.below b0) (hT.below b0) (by omega)
  have hD := fun W (hg : gdP sts = true) (hb : Below w.heap.size w W) => deepPath_all sts a n cap W (hF.below hb) hw hg
  have HB := Lib.hid b0
  have HX := Lib.hid x0
  unfold okP
  clear hF hT b0 x0
  cases hg : gdP sts
  · rw [hg] at hP
    clear hD hg
    go_enter Tryz.func10, Tryz.ntmps10
    go_wp2_with fail
    refine hP.mono ?_
    rintro e w1 ⟨rfl, b1⟩
    have HB1 := Lib.hid (HB.out.trans (b1.mono HB.out.size))
    clear hP b1
    go_wp2_with fail
    go_ret
    exact ⟨rfl, HB1.out⟩
  · have hD1 := fun W => hD W hg
    rw [hg] at hP
    obtain ⟨d, hd⟩ : ∃ d, dpIn 0 sts = d := ⟨_, rfl⟩
    simp only [hd] at hD1 ⊢
    have HD := Lib.hid hD1
    clear hD hg hD1 hd
    by_cases h2 : d ≤ 200
    · rw [show decide (d ≤ 200) = true by simp [h2]]
      simp only [Bool.true_and, if_true]
      have h3 : ¬ 200 < d := by omega
      go_enter Tryz.func10, Tryz.ntmps10
      go_wp2_with fail
      refine hP.mono ?_
      rintro e w1 ⟨rfl, b1⟩
      have hx := (b1.block _ (Array.getElem?_eq_some_iff.1 HX.out).1).trans HX.out
      have k0 : w1.cell? ⟨w.heap.size, 0, none⟩ = some (.slice a n cap) := by simp [World.cell?, hx]
      have HB1 := Lib.hid (HB.out.trans (b1.mono HB.out.size))
      have hC := HD.out w1 HB1.out
      clear hP b1 hx
      go_wp2_with fail
      refine hC.mono ?_
      rintro e w2 ⟨rfl, b2⟩
      have HB2 := Lib.hid (HB1.out.trans (b2.mono HB1.out.size))
      clear hC b2 k0
      go_wp2_with fail
      go_ret
      exact ⟨rfl, HB2.out⟩
    · rw [show decide (d ≤ 200) = false by simp; omega]
      simp only [Bool.and_false, Bool.false_eq_true, if_false]
      have h3 : 200 < d := by omega
      go_enter Tryz.func10, Tryz.ntmps10
      go_wp2_with fail
      refine hP.mono ?_
      rintro e w1 ⟨rfl, b1⟩
      have hx := (b1.block _ (Array.getElem?_eq_some_iff.1 HX.out).1).trans HX.out
      have k0 : w1.cell? ⟨w.heap.size, 0, none⟩ = some (.slice a n cap) := by simp [World.cell?, hx]
      have HB1 := Lib.hid (HB.out.trans (b1.mono HB.out.size))
      have hC := HD.out w1 HB1.out
      clear hP b1 hx
      go_wp2_with fail
      refine hC.mono ?_
      rintro e w2 ⟨rfl, b2⟩
      have HB2 := Lib.hid (HB1.out.trans (b2.mono HB1.out.size))
      clear hC b2 k0
      go_wp2_with fail
      go_ret
      exact ⟨rfl, HB2.out⟩
end Go.Proofs.YtkhejkfjhddobaaGreatDoor

end

