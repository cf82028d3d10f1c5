/- gimletref14.Is of any formula. Printed by wip/mkis.py. -/
import Derived.Test.YtmdanfeilgeoaaaKTree2
import Derived.Test.YtmdanfeilgeoaaaKOrder
import Derived.Deep.CutRange
import Derived.Deep.CutBlock
namespace Go.Proofs.Ytmdanfeilgeoaaa
open Go.RowKit Gim Go.Sort
set_option maxRecDepth 100000 in
set_option maxHeartbeats 8000000 in
theorem is_calls : ∀ (k : Nat) (op v x : Int) (gs : List Fm) (a : Option Addr) (n cap : Nat) (w : World), SizeOf.sizeOf (Fm.mk op v x gs) ≤ k → FitS w gs a n cap →
    Calls Try.prog 16 #[.agg #[.int .i64 op, .int .i64 v, .int .i64 x, .slice a n cap]] w fun e w' => e = .returned (.bool (isB (.mk op v x gs))) ∧ Grows w w' := by
  intro k
  induction k with
  | zero => intro op v x gs a n cap w hk; exact absurd hk (by simp)
  | succ k ih =>
  intro op v x gs a n cap w hk hF
  have hcm := hF.cap_le
  have hle := hF.le
  have hnb : n ≤ 9223372036854775807 := by unfold maxLen at hcm; omega
  have HL := Lib.hid hF.len
  have HF := Lib.hid hF
  have HK := Lib.hid hk
  have IH := Lib.hid ih
  have hg1 : Grows w (w.alloc (.cells #[.int .i64 op, .int .i64 v, .int .i64 x, .slice a n cap] 26)) := (Grows.refl _).alloc _
  have hbx := heap_alloc_new w (.cells #[.int .i64 op, .int .i64 v, .int .i64 x, .slice a n cap] 26)
  obtain ⟨W1, hW1⟩ : ∃ W1, w.alloc (.cells #[.int .i64 op, .int .i64 v, .int .i64 x, .slice a n cap] 26) = W1 := ⟨_, rfl⟩
  rw [hW1] at hg1 hbx
  clear hF hk ih
  go_enter Try.func16, Try.ntmps16
  go_upto_region 1 with fail
  try rw [hW1]
  clear hW1
  obtain ⟨B, hB⟩ : ∃ B, w.heap.size = B := ⟨_, rfl⟩
  rw [hB] at hbx ⊢
  have b0 : W1.cell? ⟨B, 0, none⟩ = some (.int .i64 op) := by simp [World.cell?, hbx]
  have b1 : W1.cell? ⟨B, 1, none⟩ = some (.int .i64 v) := by simp [World.cell?, hbx]
  have HBX := Lib.hid hbx
  have HG1 := Lib.hid hg1
  clear hbx hg1 hB
  go_quiet (fail)
  obtain ⟨W2, hW2⟩ : ∃ W2, W1.drewN nq = W2 := ⟨_, rfl⟩
  have hbx2 : W2.heap[B]? = some (.cells #[.int .i64 op, .int .i64 v, .int .i64 x, .slice a n cap] 26) := by rw [← hW2]; exact HBX.out
  have HG2 := Lib.hid (show Grows w W2 by rw [← hW2]; exact HG1.out.drewN _)
  rw [hW2]
  clear hW2 b0 b1 HG1
  have c2 : W2.cell? ⟨B, 2, none⟩ = some (.int .i64 x) := by simp [World.cell?, hbx2]
  have c3 : W2.cell? ⟨B, 3, none⟩ = some (.slice a n cap) := by simp [World.cell?, hbx2]
  have HIS := Lib.hid (show isB (.mk op v x gs) = (okB op v x n && isL gs) by unfold isB; rw [HL.out])
  clear hbx2
  by_cases h0 : op = 0
  · skip
    by_cases hv0 : 0 ≤ v
    · skip
      by_cases hv2 : v ≤ 2
      · skip
        by_cases hx : x = 0
        · skip
          by_cases hn : n = 0
          · skip
            have HE := Lib.hid (show isB (.mk op v x gs) = true by rw [HIS.out, show okB op v x n = true from (by unfold okB; (repeat' split) <;> (try simp) <;> omega), List.eq_nil_of_length_eq_zero (HL.out.trans hn)]; rfl)
            have e0 : (op == 0) = true := by simp [h0]
            have hx2 : (x == 0) = true := by simp [hx]
            have hx3 : (x != 0) = false := by simp [hx]
            have hn2 : ((n : Int) == 0) = true := by simp [hn]
            clear h0 hx hn
            go_wp2_with fail
            go_ret
            exact ⟨by rw [HE.out]; rfl, HG2.out⟩
          · skip
            have HE := Lib.hid (show isB (.mk op v x gs) = false by rw [HIS.out, show okB op v x n = false from (by unfold okB; (repeat' split) <;> (try simp) <;> omega)]; rfl)
            have e0 : (op == 0) = true := by simp [h0]
            have hx2 : (x == 0) = true := by simp [hx]
            have hx3 : (x != 0) = false := by simp [hx]
            have hn2 : ((n : Int) == 0) = false := beq_eq_false_iff_ne.2 (by omega)
            clear h0 hx hn
            go_wp2_with fail
            go_ret
            exact ⟨by rw [HE.out]; rfl, HG2.out⟩
        · skip
          have HE := Lib.hid (show isB (.mk op v x gs) = false by rw [HIS.out, show okB op v x n = false from (by unfold okB; (repeat' split) <;> (try simp) <;> omega)]; rfl)
          have e0 : (op == 0) = true := by simp [h0]
          have hx2 : (x == 0) = false := beq_eq_false_iff_ne.2 hx
          have hx3 : (x != 0) = true := by simpa using hx
          clear h0 hx
          go_wp2_with fail
          go_ret
          exact ⟨by rw [HE.out]; rfl, HG2.out⟩
      · skip
        have HE := Lib.hid (show isB (.mk op v x gs) = false by rw [HIS.out, show okB op v x n = false from (by unfold okB; (repeat' split) <;> (try simp) <;> omega)]; rfl)
        have e0 : (op == 0) = true := by simp [h0]
        clear h0
        go_wp2_with fail
        go_ret
        exact ⟨by rw [HE.out]; rfl, HG2.out⟩
    · skip
      have HE := Lib.hid (show isB (.mk op v x gs) = false by rw [HIS.out, show okB op v x n = false from (by unfold okB; (repeat' split) <;> (try simp) <;> omega)]; rfl)
      have e0 : (op == 0) = true := by simp [h0]
      clear h0
      go_wp2_with fail
      go_ret
      exact ⟨by rw [HE.out]; rfl, HG2.out⟩
  · skip
    by_cases h1 : op = 1
    · skip
      by_cases hv : v = 0
      · skip
        by_cases hx0 : 0 ≤ x
        · skip
          by_cases hx1 : x < 65536
          · skip
            by_cases hn : n = 0
            · skip
              have HE := Lib.hid (show isB (.mk op v x gs) = true by rw [HIS.out, show okB op v x n = true from (by unfold okB; (repeat' split) <;> (try simp) <;> omega), List.eq_nil_of_length_eq_zero (HL.out.trans hn)]; rfl)
              have e0 : (op == 0) = false := beq_eq_false_iff_ne.2 h0
              have e1 : (op == 1) = true := by simp [h1]
              have hv2 : (v == 0) = true := by simp [hv]
              have hv3 : (v != 0) = false := by simp [hv]
              have hn2 : ((n : Int) == 0) = true := by simp [hn]
              clear h0 h1 hv hn
              go_wp2_with fail
              go_ret
              exact ⟨by rw [HE.out]; rfl, HG2.out⟩
            · skip
              have HE := Lib.hid (show isB (.mk op v x gs) = false by rw [HIS.out, show okB op v x n = false from (by unfold okB; (repeat' split) <;> (try simp) <;> omega)]; rfl)
              have e0 : (op == 0) = false := beq_eq_false_iff_ne.2 h0
              have e1 : (op == 1) = true := by simp [h1]
              have hv2 : (v == 0) = true := by simp [hv]
              have hv3 : (v != 0) = false := by simp [hv]
              have hn2 : ((n : Int) == 0) = false := beq_eq_false_iff_ne.2 (by omega)
              clear h0 h1 hv hn
              go_wp2_with fail
              go_ret
              exact ⟨by rw [HE.out]; rfl, HG2.out⟩
          · skip
            have HE := Lib.hid (show isB (.mk op v x gs) = false by rw [HIS.out, show okB op v x n = false from (by unfold okB; (repeat' split) <;> (try simp) <;> omega)]; rfl)
            have e0 : (op == 0) = false := beq_eq_false_iff_ne.2 h0
            have e1 : (op == 1) = true := by simp [h1]
            have hv2 : (v == 0) = true := by simp [hv]
            have hv3 : (v != 0) = false := by simp [hv]
            clear h0 h1 hv
            go_wp2_with fail
            go_ret
            exact ⟨by rw [HE.out]; rfl, HG2.out⟩
        · skip
          have HE := Lib.hid (show isB (.mk op v x gs) = false by rw [HIS.out, show okB op v x n = false from (by unfold okB; (repeat' split) <;> (try simp) <;> omega)]; rfl)
          have e0 : (op == 0) = false := beq_eq_false_iff_ne.2 h0
          have e1 : (op == 1) = true := by simp [h1]
          have hv2 : (v == 0) = true := by simp [hv]
          have hv3 : (v != 0) = false := by simp [hv]
          clear h0 h1 hv
          go_wp2_with fail
          go_ret
          exact ⟨by rw [HE.out]; rfl, HG2.out⟩
      · skip
        have HE := Lib.hid (show isB (.mk op v x gs) = false by rw [HIS.out, show okB op v x n = false from (by unfold okB; (repeat' split) <;> (try simp) <;> omega)]; rfl)
        have e0 : (op == 0) = false := beq_eq_false_iff_ne.2 h0
        have e1 : (op == 1) = true := by simp [h1]
        have hv2 : (v == 0) = false := beq_eq_false_iff_ne.2 hv
        have hv3 : (v != 0) = true := by simpa using hv
        clear h0 h1 hv
        go_wp2_with fail
        go_ret
        exact ⟨by rw [HE.out]; rfl, HG2.out⟩
    · skip
      by_cases h2 : op = 2
      · skip
        by_cases hv : v = 0
        · skip
          by_cases hx : x = 0
          · skip
            have HE := Lib.hid (show isB (.mk op v x gs) = isL gs by rw [HIS.out, show okB op v x n = true from (by unfold okB; (repeat' split) <;> (try simp) <;> omega)]; rfl)
            have e0 : (op == 0) = false := beq_eq_false_iff_ne.2 h0
            have e1 : (op == 1) = false := beq_eq_false_iff_ne.2 h1
            have e2 : (op == 2) = true := by simp [h2]
            have e4 : (op == 4) = false := by simp [h2]
            have hv2 : (v == 0) = true := by simp [hv]
            have hv3 : (v != 0) = false := by simp [hv]
            have hx2 : (x == 0) = true := by simp [hx]
            have hx3 : (x != 0) = false := by simp [hx]
            clear h0 h1 h2 hv hx
            go_wp2_with fail
            go_loopw [75] (fun i wr => ∃ q : Nat, i = .int .i64 q ∧ q ≤ n ∧ Grows W2 wr ∧ Hid (isL (gs.take q) = true)) (fun i _ => n - (RowKit.intOf i).toNat)
            case atStart => exact ⟨0, rfl, Nat.zero_le _, Grows.refl _, Lib.hid rfl⟩
            case round =>
              obtain ⟨q, rfl, hq, hgr, HI⟩ := hrel
              by_cases hqn : q < n
              · have hqn' : (q : Int) < n := by omega
                obtain ⟨b, o, op2, v2, x2, bs, a2, n2, cap2, rfl, hb, hel, d0, d1, d2, d3, hF2⟩ := (HF.out.below (HG2.out.trans hgr).below).elem q hqn
                have hsm := mem_small (op := op) (v := v) (x := x) hel
                have hN : isL (gs.take (q + 1)) = isB (.mk op2 v2 x2 bs) := by
                  rw [take_next hel, isL_snoc, HI.out]
                  rfl
                have HEL := Lib.hid (show isB (.mk op2 v2 x2 bs) = false → isL gs = false from fun h => by
                  rw [← List.take_append_drop (q + 1) gs, isL_app, hN, h]; rfl)
                have HN := Lib.hid hN
                have hg3 : Grows wr (wr.alloc (.cells #[.int .i64 op2, .int .i64 v2, .int .i64 x2, .slice a2 n2 cap2] 26)) := (Grows.refl _).alloc _
                have hC := IH.out op2 v2 x2 bs a2 n2 cap2 _ (by have := HK.out; omega) (hF2.below hg3.below)
                have HG3 := Lib.hid (hgr.trans hg3)
                clear hel hsm hN hg3 hF2 HI hgr
                cases hb2 : isB (.mk op2 v2 x2 bs)
                · rw [hb2] at hC
                  have HF2 := Lib.hid (HEL.out hb2)
                  clear hb2 HEL HN
                  go_wp2_with fail
                  refine hC.mono ?_
                  rintro e w3 ⟨rfl, hg4⟩
                  go_wp2_with fail
                  go_ret
                  exact ⟨by rw [HE.out, HF2.out]; rfl, HG2.out.trans (HG3.out.trans hg4)⟩
                · rw [hb2] at hC
                  have HF2 := Lib.hid (HN.out.trans hb2)
                  clear hb2 HEL HN
                  go_wp2_with fail
                  refine hC.mono ?_
                  rintro e w3 ⟨rfl, hg4⟩
                  have HG4 := Lib.hid (HG3.out.trans hg4)
                  clear hg4 hC
                  go_wp2_with fail
                  go_roundw
                  case rel => exact ⟨q + 1, by go_num, by omega, HG4.out, HF2⟩
                  case measure => simp [RowKit.intOf]; omega
              · obtain rfl : q = n := by omega
                have HT := Lib.hid (show isL gs = true by rw [← HI.out, List.take_of_length_le (by rw [HL.out]; exact Nat.le_refl _)])
                have HG4 := Lib.hid (HG2.out.trans hgr)
                clear HI hgr
                go_wp2_with fail
                go_ret
                exact ⟨by rw [HE.out, HT.out]; rfl, HG4.out⟩
          · skip
            have HE := Lib.hid (show isB (.mk op v x gs) = false by rw [HIS.out, show okB op v x n = false from (by unfold okB; (repeat' split) <;> (try simp) <;> omega)]; rfl)
            have e0 : (op == 0) = false := beq_eq_false_iff_ne.2 h0
            have e1 : (op == 1) = false := beq_eq_false_iff_ne.2 h1
            have e2 : (op == 2) = true := by simp [h2]
            have e4 : (op == 4) = false := by simp [h2]
            have hv2 : (v == 0) = true := by simp [hv]
            have hv3 : (v != 0) = false := by simp [hv]
            have hx2 : (x == 0) = false := beq_eq_false_iff_ne.2 hx
            have hx3 : (x != 0) = true := by simpa using hx
            clear h0 h1 h2 hv hx
            go_wp2_with fail
            go_ret
            exact ⟨by rw [HE.out]; rfl, HG2.out⟩
        · skip
          have HE := Lib.hid (show isB (.mk op v x gs) = false by rw [HIS.out, show okB op v x n = false from (by unfold okB; (repeat' split) <;> (try simp) <;> omega)]; rfl)
          have e0 : (op == 0) = false := beq_eq_false_iff_ne.2 h0
          have e1 : (op == 1) = false := beq_eq_false_iff_ne.2 h1
          have e2 : (op == 2) = true := by simp [h2]
          have e4 : (op == 4) = false := by simp [h2]
          have hv2 : (v == 0) = false := beq_eq_false_iff_ne.2 hv
          have hv3 : (v != 0) = true := by simpa using hv
          clear h0 h1 h2 hv
          go_wp2_with fail
          go_ret
          exact ⟨by rw [HE.out]; rfl, HG2.out⟩
      · skip
        by_cases h3 : op = 3
        · skip
          by_cases hv : v = 0
          · skip
            by_cases hx : x = 0
            · skip
              have HE := Lib.hid (show isB (.mk op v x gs) = isL gs by rw [HIS.out, show okB op v x n = true from (by unfold okB; (repeat' split) <;> (try simp) <;> omega)]; rfl)
              have e0 : (op == 0) = false := beq_eq_false_iff_ne.2 h0
              have e1 : (op == 1) = false := beq_eq_false_iff_ne.2 h1
              have e2 : (op == 2) = false := beq_eq_false_iff_ne.2 h2
              have e3 : (op == 3) = true := by simp [h3]
              have e4 : (op == 4) = false := by simp [h3]
              have hv2 : (v == 0) = true := by simp [hv]
              have hv3 : (v != 0) = false := by simp [hv]
              have hx2 : (x == 0) = true := by simp [hx]
              have hx3 : (x != 0) = false := by simp [hx]
              clear h0 h1 h2 h3 hv hx
              go_wp2_with fail
              go_loopw [75] (fun i wr => ∃ q : Nat, i = .int .i64 q ∧ q ≤ n ∧ Grows W2 wr ∧ Hid (isL (gs.take q) = true)) (fun i _ => n - (RowKit.intOf i).toNat)
              case atStart => exact ⟨0, rfl, Nat.zero_le _, Grows.refl _, Lib.hid rfl⟩
              case round =>
                obtain ⟨q, rfl, hq, hgr, HI⟩ := hrel
                by_cases hqn : q < n
                · have hqn' : (q : Int) < n := by omega
                  obtain ⟨b, o, op2, v2, x2, bs, a2, n2, cap2, rfl, hb, hel, d0, d1, d2, d3, hF2⟩ := (HF.out.below (HG2.out.trans hgr).below).elem q hqn
                  have hsm := mem_small (op := op) (v := v) (x := x) hel
                  have hN : isL (gs.take (q + 1)) = isB (.mk op2 v2 x2 bs) := by
                    rw [take_next hel, isL_snoc, HI.out]
                    rfl
                  have HEL := Lib.hid (show isB (.mk op2 v2 x2 bs) = false → isL gs = false from fun h => by
                    rw [← List.take_append_drop (q + 1) gs, isL_app, hN, h]; rfl)
                  have HN := Lib.hid hN
                  have hg3 : Grows wr (wr.alloc (.cells #[.int .i64 op2, .int .i64 v2, .int .i64 x2, .slice a2 n2 cap2] 26)) := (Grows.refl _).alloc _
                  have hC := IH.out op2 v2 x2 bs a2 n2 cap2 _ (by have := HK.out; omega) (hF2.below hg3.below)
                  have HG3 := Lib.hid (hgr.trans hg3)
                  clear hel hsm hN hg3 hF2 HI hgr
                  cases hb2 : isB (.mk op2 v2 x2 bs)
                  · rw [hb2] at hC
                    have HF2 := Lib.hid (HEL.out hb2)
                    clear hb2 HEL HN
                    go_wp2_with fail
                    refine hC.mono ?_
                    rintro e w3 ⟨rfl, hg4⟩
                    go_wp2_with fail
                    go_ret
                    exact ⟨by rw [HE.out, HF2.out]; rfl, HG2.out.trans (HG3.out.trans hg4)⟩
                  · rw [hb2] at hC
                    have HF2 := Lib.hid (HN.out.trans hb2)
                    clear hb2 HEL HN
                    go_wp2_with fail
                    refine hC.mono ?_
                    rintro e w3 ⟨rfl, hg4⟩
                    have HG4 := Lib.hid (HG3.out.trans hg4)
                    clear hg4 hC
                    go_wp2_with fail
                    go_roundw
                    case rel => exact ⟨q + 1, by go_num, by omega, HG4.out, HF2⟩
                    case measure => simp [RowKit.intOf]; omega
                · obtain rfl : q = n := by omega
                  have HT := Lib.hid (show isL gs = true by rw [← HI.out, List.take_of_length_le (by rw [HL.out]; exact Nat.le_refl _)])
                  have HG4 := Lib.hid (HG2.out.trans hgr)
                  clear HI hgr
                  go_wp2_with fail
                  go_ret
                  exact ⟨by rw [HE.out, HT.out]; rfl, HG4.out⟩
            · skip
              have HE := Lib.hid (show isB (.mk op v x gs) = false by rw [HIS.out, show okB op v x n = false from (by unfold okB; (repeat' split) <;> (try simp) <;> omega)]; rfl)
              have e0 : (op == 0) = false := beq_eq_false_iff_ne.2 h0
              have e1 : (op == 1) = false := beq_eq_false_iff_ne.2 h1
              have e2 : (op == 2) = false := beq_eq_false_iff_ne.2 h2
              have e3 : (op == 3) = true := by simp [h3]
              have e4 : (op == 4) = false := by simp [h3]
              have hv2 : (v == 0) = true := by simp [hv]
              have hv3 : (v != 0) = false := by simp [hv]
              have hx2 : (x == 0) = false := beq_eq_false_iff_ne.2 hx
              have hx3 : (x != 0) = true := by simpa using hx
              clear h0 h1 h2 h3 hv hx
              go_wp2_with fail
              go_ret
              exact ⟨by rw [HE.out]; rfl, HG2.out⟩
          · skip
            have HE := Lib.hid (show isB (.mk op v x gs) = false by rw [HIS.out, show okB op v x n = false from (by unfold okB; (repeat' split) <;> (try simp) <;> omega)]; rfl)
            have e0 : (op == 0) = false := beq_eq_false_iff_ne.2 h0
            have e1 : (op == 1) = false := beq_eq_false_iff_ne.2 h1
            have e2 : (op == 2) = false := beq_eq_false_iff_ne.2 h2
            have e3 : (op == 3) = true := by simp [h3]
            have e4 : (op == 4) = false := by simp [h3]
            have hv2 : (v == 0) = false := beq_eq_false_iff_ne.2 hv
            have hv3 : (v != 0) = true := by simpa using hv
            clear h0 h1 h2 h3 hv
            go_wp2_with fail
            go_ret
            exact ⟨by rw [HE.out]; rfl, HG2.out⟩
        · skip
          by_cases h4 : op = 4
          · skip
            by_cases hv : v = 0
            · skip
              by_cases hx : x = 0
              · skip
                by_cases hn : n = 1
                · skip
                  have HE := Lib.hid (show isB (.mk op v x gs) = isL gs by rw [HIS.out, show okB op v x n = true from (by unfold okB; (repeat' split) <;> (try simp) <;> omega)]; rfl)
                  have e0 : (op == 0) = false := beq_eq_false_iff_ne.2 h0
                  have e1 : (op == 1) = false := beq_eq_false_iff_ne.2 h1
                  have e2 : (op == 2) = false := beq_eq_false_iff_ne.2 h2
                  have e3 : (op == 3) = false := beq_eq_false_iff_ne.2 h3
                  have e4 : (op == 4) = true := by simp [h4]
                  have hv2 : (v == 0) = true := by simp [hv]
                  have hv3 : (v != 0) = false := by simp [hv]
                  have hx2 : (x == 0) = true := by simp [hx]
                  have hx3 : (x != 0) = false := by simp [hx]
                  have hn2 : ((n : Int) != 1) = false := by simp [hn]
                  clear h0 h1 h2 h3 h4 hv hx hn
                  go_wp2_with fail
                  go_loopw [75] (fun i wr => ∃ q : Nat, i = .int .i64 q ∧ q ≤ n ∧ Grows W2 wr ∧ Hid (isL (gs.take q) = true)) (fun i _ => n - (RowKit.intOf i).toNat)
                  case atStart => exact ⟨0, rfl, Nat.zero_le _, Grows.refl _, Lib.hid rfl⟩
                  case round =>
                    obtain ⟨q, rfl, hq, hgr, HI⟩ := hrel
                    by_cases hqn : q < n
                    · have hqn' : (q : Int) < n := by omega
                      obtain ⟨b, o, op2, v2, x2, bs, a2, n2, cap2, rfl, hb, hel, d0, d1, d2, d3, hF2⟩ := (HF.out.below (HG2.out.trans hgr).below).elem q hqn
                      have hsm := mem_small (op := op) (v := v) (x := x) hel
                      have hN : isL (gs.take (q + 1)) = isB (.mk op2 v2 x2 bs) := by
                        rw [take_next hel, isL_snoc, HI.out]
                        rfl
                      have HEL := Lib.hid (show isB (.mk op2 v2 x2 bs) = false → isL gs = false from fun h => by
                        rw [← List.take_append_drop (q + 1) gs, isL_app, hN, h]; rfl)
                      have HN := Lib.hid hN
                      have hg3 : Grows wr (wr.alloc (.cells #[.int .i64 op2, .int .i64 v2, .int .i64 x2, .slice a2 n2 cap2] 26)) := (Grows.refl _).alloc _
                      have hC := IH.out op2 v2 x2 bs a2 n2 cap2 _ (by have := HK.out; omega) (hF2.below hg3.below)
                      have HG3 := Lib.hid (hgr.trans hg3)
                      clear hel hsm hN hg3 hF2 HI hgr
                      cases hb2 : isB (.mk op2 v2 x2 bs)
                      · rw [hb2] at hC
                        have HF2 := Lib.hid (HEL.out hb2)
                        clear hb2 HEL HN
                        go_wp2_with fail
                        refine hC.mono ?_
                        rintro e w3 ⟨rfl, hg4⟩
                        go_wp2_with fail
                        go_ret
                        exact ⟨by rw [HE.out, HF2.out]; rfl, HG2.out.trans (HG3.out.trans hg4)⟩
                      · rw [hb2] at hC
                        have HF2 := Lib.hid (HN.out.trans hb2)
                        clear hb2 HEL HN
                        go_wp2_with fail
                        refine hC.mono ?_
                        rintro e w3 ⟨rfl, hg4⟩
                        have HG4 := Lib.hid (HG3.out.trans hg4)
                        clear hg4 hC
                        go_wp2_with fail
                        go_roundw
                        case rel => exact ⟨q + 1, by go_num, by omega, HG4.out, HF2⟩
                        case measure => simp [RowKit.intOf]; omega
                    · obtain rfl : q = n := by omega
                      have HT := Lib.hid (show isL gs = true by rw [← HI.out, List.take_of_length_le (by rw [HL.out]; exact Nat.le_refl _)])
                      have HG4 := Lib.hid (HG2.out.trans hgr)
                      clear HI hgr
                      go_wp2_with fail
                      go_ret
                      exact ⟨by rw [HE.out, HT.out]; rfl, HG4.out⟩
                · skip
                  have HE := Lib.hid (show isB (.mk op v x gs) = false by rw [HIS.out, show okB op v x n = false from (by unfold okB; (repeat' split) <;> (try simp) <;> omega)]; rfl)
                  have e0 : (op == 0) = false := beq_eq_false_iff_ne.2 h0
                  have e1 : (op == 1) = false := beq_eq_false_iff_ne.2 h1
                  have e2 : (op == 2) = false := beq_eq_false_iff_ne.2 h2
                  have e3 : (op == 3) = false := beq_eq_false_iff_ne.2 h3
                  have e4 : (op == 4) = true := by simp [h4]
                  have hv2 : (v == 0) = true := by simp [hv]
                  have hv3 : (v != 0) = false := by simp [hv]
                  have hx2 : (x == 0) = true := by simp [hx]
                  have hx3 : (x != 0) = false := by simp [hx]
                  have hn2 : ((n : Int) != 1) = true := by simp; omega
                  clear h0 h1 h2 h3 h4 hv hx hn
                  go_wp2_with fail
                  go_ret
                  exact ⟨by rw [HE.out]; rfl, HG2.out⟩
              · skip
                have HE := Lib.hid (show isB (.mk op v x gs) = false by rw [HIS.out, show okB op v x n = false from (by unfold okB; (repeat' split) <;> (try simp) <;> omega)]; rfl)
                have e0 : (op == 0) = false := beq_eq_false_iff_ne.2 h0
                have e1 : (op == 1) = false := beq_eq_false_iff_ne.2 h1
                have e2 : (op == 2) = false := beq_eq_false_iff_ne.2 h2
                have e3 : (op == 3) = false := beq_eq_false_iff_ne.2 h3
                have e4 : (op == 4) = true := by simp [h4]
                have hv2 : (v == 0) = true := by simp [hv]
                have hv3 : (v != 0) = false := by simp [hv]
                have hx2 : (x == 0) = false := beq_eq_false_iff_ne.2 hx
                have hx3 : (x != 0) = true := by simpa using hx
                clear h0 h1 h2 h3 h4 hv hx
                go_wp2_with fail
                go_ret
                exact ⟨by rw [HE.out]; rfl, HG2.out⟩
            · skip
              have HE := Lib.hid (show isB (.mk op v x gs) = false by rw [HIS.out, show okB op v x n = false from (by unfold okB; (repeat' split) <;> (try simp) <;> omega)]; rfl)
              have e0 : (op == 0) = false := beq_eq_false_iff_ne.2 h0
              have e1 : (op == 1) = false := beq_eq_false_iff_ne.2 h1
              have e2 : (op == 2) = false := beq_eq_false_iff_ne.2 h2
              have e3 : (op == 3) = false := beq_eq_false_iff_ne.2 h3
              have e4 : (op == 4) = true := by simp [h4]
              have hv2 : (v == 0) = false := beq_eq_false_iff_ne.2 hv
              have hv3 : (v != 0) = true := by simpa using hv
              clear h0 h1 h2 h3 h4 hv
              go_wp2_with fail
              go_ret
              exact ⟨by rw [HE.out]; rfl, HG2.out⟩
          · skip
            have HE := Lib.hid (show isB (.mk op v x gs) = false by rw [HIS.out, show okB op v x n = false from (by unfold okB; (repeat' split) <;> (try simp) <;> omega)]; rfl)
            have e0 : (op == 0) = false := beq_eq_false_iff_ne.2 h0
            have e1 : (op == 1) = false := beq_eq_false_iff_ne.2 h1
            have e2 : (op == 2) = false := beq_eq_false_iff_ne.2 h2
            have e3 : (op == 3) = false := beq_eq_false_iff_ne.2 h3
            have e4 : (op == 4) = false := beq_eq_false_iff_ne.2 h4
            clear h0 h1 h2 h3 h4
            go_wp2_with fail
            go_ret
            exact ⟨by rw [HE.out]; rfl, HG2.out⟩
end Go.Proofs.Ytmdanfeilgeoaaa
