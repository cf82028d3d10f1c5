/- kleene.Check of any formula. Printed by wip/mkcheck.py. -/
import Derived.Test.YtmdanfeilgeoaaaKTree
import Derived.Test.YtmdanfeilgeoaaaKVals
import Derived.Test.YtmdanfeilgeoaaaKOrder
import Derived.Deep.CutRange
import Derived.Deep.CutBlock
namespace Go.Proofs.Ytmdanfeilgeoaaa
open Go.RowKit Gim Go.Sort
set_option maxRecDepth 100000 in
set_option maxHeartbeats 8000000 in
theorem check_calls : ∀ (k : Nat) (op v x : Int) (gs : List Fm) (a : Option Addr) (n cap : Nat) (w : World), SizeOf.sizeOf (Fm.mk op v x gs) ≤ k → FitS w gs a n cap →
    Calls Try.prog 20 #[.agg #[.int .i64 op, .int .i64 v, .int .i64 x, .slice a n cap]] w fun e w' => e = .returned (.int .i64 (chkE (.mk op v x gs))) ∧ Grows w w' := by
  intro k
  induction k with
  | zero => intro op v x gs a n cap w hk _; exact absurd hk (by simp)
  | succ k ih =>
  intro op v x gs a n cap w hk hF
  have hcm := hF.cap_le
  have hle := hF.le
  have hnb : n ≤ 9223372036854775807 := by unfold maxLen at hcm; omega
  have HGOOD := Lib.hid (fun w => good_calls v w)
  have HL := Lib.hid hF.len
  have HF := Lib.hid hF
  have HK := Lib.hid hk
  have IH := Lib.hid ih
  have hg1 : Grows w (w.alloc (.cells #[.int .i64 op, .int .i64 v, .int .i64 x, .slice a n cap] 26)) := (Grows.refl _).alloc _
  have hbx := heap_alloc_new w (.cells #[.int .i64 op, .int .i64 v, .int .i64 x, .slice a n cap] 26)
  obtain ⟨W1, hW1⟩ : ∃ W1, w.alloc (.cells #[.int .i64 op, .int .i64 v, .int .i64 x, .slice a n cap] 26) = W1 := ⟨_, rfl⟩
  rw [hW1] at hg1 hbx
  have hsz : w.heap.size < W1.heap.size := (Array.getElem?_eq_some_iff.1 hbx).1
  have HG1 := Lib.hid hg1
  clear hF hk ih hg1
  obtain ⟨okb, hokb⟩ : ∃ okb, okb = okB op v x n := ⟨_, rfl⟩
  have HOK := Lib.hid hokb
  clear hokb
  go_enter Try.func20, Try.ntmps20
  go_upto_region 2 with fail
  try rw [hW1]
  clear hW1
  obtain ⟨B, hB⟩ : ∃ B, w.heap.size = B := ⟨_, rfl⟩
  rw [hB] at hbx hsz ⊢
  have c0 : W1.cell? ⟨B, 0, none⟩ = some (.int .i64 op) := by simp [World.cell?, hbx]
  have c1 : W1.cell? ⟨B, 1, none⟩ = some (.int .i64 v) := by simp [World.cell?, hbx]
  have c2 : W1.cell? ⟨B, 2, none⟩ = some (.int .i64 x) := by simp [World.cell?, hbx]
  have c3 : W1.cell? ⟨B, 3, none⟩ = some (.slice a n cap) := by simp [World.cell?, hbx]
  have HBX := Lib.hid hbx
  clear hbx
  go_upto_block 0 with fail
  clear c0
  go_cut [3] from 9 to 72 (fun v3 wx => v3 = .bool okb ∧ Hid (wx = W1))
  case first =>
    clear HL HF HK IH HG1 hsz
    by_cases h0 : op = 0
    · skip
      by_cases hgv : 0 ≤ v ∧ v ≤ 2
      · skip
        by_cases hx : x = 0
        · skip
          by_cases hn : n = 0
          · skip
            obtain rfl : okb = true := HOK.out.trans (by unfold okB; (repeat' split) <;> (try simp) <;> omega)
            have HOK2 := HOK
            clear HOK
            subst h0
            subst hx
            subst hn
            have hgd := HGOOD.out W1
            rw [show decide (0 ≤ v ∧ v ≤ 2) = true from decide_eq_true hgv] at hgd
            go_wp2_with fail
            refine hgd.mono ?_
            rintro e wz ⟨rfl, rfl⟩
            go_wp2_with fail
            go_meet
            case rel => exact ⟨by first | rfl | simp, Lib.hid (by first | rfl | trivial)⟩
          · skip
            obtain rfl : okb = false := HOK.out.trans (by unfold okB; (repeat' split) <;> (try simp) <;> omega)
            have HOK2 := HOK
            clear HOK
            subst h0
            subst hx
            have hn2 : ((n : Int) == 0) = false := beq_eq_false_iff_ne.2 (by omega)
            have hgd := HGOOD.out W1
            rw [show decide (0 ≤ v ∧ v ≤ 2) = true from decide_eq_true hgv] at hgd
            go_wp2_with fail
            refine hgd.mono ?_
            rintro e wz ⟨rfl, rfl⟩
            go_wp2_with fail
            go_meet
            case rel => exact ⟨by first | rfl | simp, Lib.hid (by first | rfl | trivial)⟩
        · skip
          obtain rfl : okb = false := HOK.out.trans (by unfold okB; (repeat' split) <;> (try simp) <;> omega)
          have HOK2 := HOK
          clear HOK
          subst h0
          have hx2 : (x == 0) = false := beq_eq_false_iff_ne.2 hx
          have hgd := HGOOD.out W1
          rw [show decide (0 ≤ v ∧ v ≤ 2) = true from decide_eq_true hgv] at hgd
          go_wp2_with fail
          refine hgd.mono ?_
          rintro e wz ⟨rfl, rfl⟩
          go_wp2_with fail
          go_meet
          case rel => exact ⟨by first | rfl | simp, Lib.hid (by first | rfl | trivial)⟩
      · skip
        obtain rfl : okb = false := HOK.out.trans (by unfold okB; (repeat' split) <;> (try simp) <;> omega)
        have HOK2 := HOK
        clear HOK
        subst h0
        have hgd := HGOOD.out W1
        rw [show decide (0 ≤ v ∧ v ≤ 2) = false from decide_eq_false hgv] at hgd
        go_wp2_with fail
        refine hgd.mono ?_
        rintro e wz ⟨rfl, rfl⟩
        go_wp2_with fail
        go_meet
        case rel => exact ⟨by first | rfl | simp, Lib.hid (by first | rfl | trivial)⟩
    · skip
      by_cases h1 : op = 1
      · skip
        by_cases hv : v = 0
        · skip
          by_cases hx0 : 0 ≤ x
          · skip
            by_cases hx1 : x < 65536
            · skip
              by_cases hn : n = 0
              · skip
                obtain rfl : okb = true := HOK.out.trans (by unfold okB; (repeat' split) <;> (try simp) <;> omega)
                have HOK2 := HOK
                clear HOK
                have e0 : (op == 0) = false := beq_eq_false_iff_ne.2 h0
                subst h1
                subst hv
                subst hn
                go_wp2_with fail
                go_meet
                case rel => exact ⟨by first | rfl | simp, Lib.hid (by first | rfl | trivial)⟩
              · skip
                obtain rfl : okb = false := HOK.out.trans (by unfold okB; (repeat' split) <;> (try simp) <;> omega)
                have HOK2 := HOK
                clear HOK
                have e0 : (op == 0) = false := beq_eq_false_iff_ne.2 h0
                subst h1
                subst hv
                have hn2 : ((n : Int) == 0) = false := beq_eq_false_iff_ne.2 (by omega)
                go_wp2_with fail
                go_meet
                case rel => exact ⟨by first | rfl | simp, Lib.hid (by first | rfl | trivial)⟩
            · skip
              obtain rfl : okb = false := HOK.out.trans (by unfold okB; (repeat' split) <;> (try simp) <;> omega)
              have HOK2 := HOK
              clear HOK
              have e0 : (op == 0) = false := beq_eq_false_iff_ne.2 h0
              subst h1
              subst hv
              have hx3 : ¬ x < 65536 := hx1
              go_wp2_with fail
              go_meet
              case rel => exact ⟨by first | rfl | simp, Lib.hid (by first | rfl | trivial)⟩
          · skip
            obtain rfl : okb = false := HOK.out.trans (by unfold okB; (repeat' split) <;> (try simp) <;> omega)
            have HOK2 := HOK
            clear HOK
            have e0 : (op == 0) = false := beq_eq_false_iff_ne.2 h0
            subst h1
            subst hv
            have hx4 : ¬ 0 ≤ x := hx0
            go_wp2_with fail
            go_meet
            case rel => exact ⟨by first | rfl | simp, Lib.hid (by first | rfl | trivial)⟩
        · skip
          obtain rfl : okb = false := HOK.out.trans (by unfold okB; (repeat' split) <;> (try simp) <;> omega)
          have HOK2 := HOK
          clear HOK
          have e0 : (op == 0) = false := beq_eq_false_iff_ne.2 h0
          subst h1
          have hv2 : (v == 0) = false := beq_eq_false_iff_ne.2 hv
          go_wp2_with fail
          go_meet
          case rel => exact ⟨by first | rfl | simp, Lib.hid (by first | rfl | trivial)⟩
      · skip
        by_cases h2 : op = 2
        · skip
          by_cases hv : v = 0
          · skip
            by_cases hx : x = 0
            · skip
              obtain rfl : okb = true := HOK.out.trans (by unfold okB; (repeat' split) <;> (try simp) <;> omega)
              have HOK2 := HOK
              clear HOK
              have e0 : (op == 0) = false := beq_eq_false_iff_ne.2 h0
              have e1 : (op == 1) = false := beq_eq_false_iff_ne.2 h1
              subst h2
              subst hv
              subst hx
              go_wp2_with fail
              go_meet
              case rel => exact ⟨by first | rfl | simp, Lib.hid (by first | rfl | trivial)⟩
            · skip
              obtain rfl : okb = false := HOK.out.trans (by unfold okB; (repeat' split) <;> (try simp) <;> omega)
              have HOK2 := HOK
              clear HOK
              have e0 : (op == 0) = false := beq_eq_false_iff_ne.2 h0
              have e1 : (op == 1) = false := beq_eq_false_iff_ne.2 h1
              subst h2
              subst hv
              have hx2 : (x == 0) = false := beq_eq_false_iff_ne.2 hx
              go_wp2_with fail
              go_meet
              case rel => exact ⟨by first | rfl | simp, Lib.hid (by first | rfl | trivial)⟩
          · skip
            obtain rfl : okb = false := HOK.out.trans (by unfold okB; (repeat' split) <;> (try simp) <;> omega)
            have HOK2 := HOK
            clear HOK
            have e0 : (op == 0) = false := beq_eq_false_iff_ne.2 h0
            have e1 : (op == 1) = false := beq_eq_false_iff_ne.2 h1
            subst h2
            have hv2 : (v == 0) = false := beq_eq_false_iff_ne.2 hv
            go_wp2_with fail
            go_meet
            case rel => exact ⟨by first | rfl | simp, Lib.hid (by first | rfl | trivial)⟩
        · skip
          by_cases h3 : op = 3
          · skip
            by_cases hv : v = 0
            · skip
              by_cases hx : x = 0
              · skip
                obtain rfl : okb = true := HOK.out.trans (by unfold okB; (repeat' split) <;> (try simp) <;> omega)
                have HOK2 := HOK
                clear HOK
                have e0 : (op == 0) = false := beq_eq_false_iff_ne.2 h0
                have e1 : (op == 1) = false := beq_eq_false_iff_ne.2 h1
                have e2 : (op == 2) = false := beq_eq_false_iff_ne.2 h2
                subst h3
                subst hv
                subst hx
                go_wp2_with fail
                go_meet
                case rel => exact ⟨by first | rfl | simp, Lib.hid (by first | rfl | trivial)⟩
              · skip
                obtain rfl : okb = false := HOK.out.trans (by unfold okB; (repeat' split) <;> (try simp) <;> omega)
                have HOK2 := HOK
                clear HOK
                have e0 : (op == 0) = false := beq_eq_false_iff_ne.2 h0
                have e1 : (op == 1) = false := beq_eq_false_iff_ne.2 h1
                have e2 : (op == 2) = false := beq_eq_false_iff_ne.2 h2
                subst h3
                subst hv
                have hx2 : (x == 0) = false := beq_eq_false_iff_ne.2 hx
                go_wp2_with fail
                go_meet
                case rel => exact ⟨by first | rfl | simp, Lib.hid (by first | rfl | trivial)⟩
            · skip
              obtain rfl : okb = false := HOK.out.trans (by unfold okB; (repeat' split) <;> (try simp) <;> omega)
              have HOK2 := HOK
              clear HOK
              have e0 : (op == 0) = false := beq_eq_false_iff_ne.2 h0
              have e1 : (op == 1) = false := beq_eq_false_iff_ne.2 h1
              have e2 : (op == 2) = false := beq_eq_false_iff_ne.2 h2
              subst h3
              have hv2 : (v == 0) = false := beq_eq_false_iff_ne.2 hv
              go_wp2_with fail
              go_meet
              case rel => exact ⟨by first | rfl | simp, Lib.hid (by first | rfl | trivial)⟩
          · skip
            by_cases h4 : op = 4
            · skip
              by_cases hv : v = 0
              · skip
                by_cases hx : x = 0
                · skip
                  by_cases hn : n = 1
                  · skip
                    obtain rfl : okb = true := HOK.out.trans (by unfold okB; (repeat' split) <;> (try simp) <;> omega)
                    have HOK2 := HOK
                    clear HOK
                    have e0 : (op == 0) = false := beq_eq_false_iff_ne.2 h0
                    have e1 : (op == 1) = false := beq_eq_false_iff_ne.2 h1
                    have e2 : (op == 2) = false := beq_eq_false_iff_ne.2 h2
                    have e3 : (op == 3) = false := beq_eq_false_iff_ne.2 h3
                    subst h4
                    subst hv
                    subst hx
                    subst hn
                    go_wp2_with fail
                    go_meet
                    case rel => exact ⟨by first | rfl | simp, Lib.hid (by first | rfl | trivial)⟩
                  · skip
                    obtain rfl : okb = false := HOK.out.trans (by unfold okB; (repeat' split) <;> (try simp) <;> omega)
                    have HOK2 := HOK
                    clear HOK
                    have e0 : (op == 0) = false := beq_eq_false_iff_ne.2 h0
                    have e1 : (op == 1) = false := beq_eq_false_iff_ne.2 h1
                    have e2 : (op == 2) = false := beq_eq_false_iff_ne.2 h2
                    have e3 : (op == 3) = false := beq_eq_false_iff_ne.2 h3
                    subst h4
                    subst hv
                    subst hx
                    have hn2 : ((n : Int) == 1) = false := beq_eq_false_iff_ne.2 (by omega)
                    go_wp2_with fail
                    go_meet
                    case rel => exact ⟨by first | rfl | simp, Lib.hid (by first | rfl | trivial)⟩
                · skip
                  obtain rfl : okb = false := HOK.out.trans (by unfold okB; (repeat' split) <;> (try simp) <;> omega)
                  have HOK2 := HOK
                  clear HOK
                  have e0 : (op == 0) = false := beq_eq_false_iff_ne.2 h0
                  have e1 : (op == 1) = false := beq_eq_false_iff_ne.2 h1
                  have e2 : (op == 2) = false := beq_eq_false_iff_ne.2 h2
                  have e3 : (op == 3) = false := beq_eq_false_iff_ne.2 h3
                  subst h4
                  subst hv
                  have hx2 : (x == 0) = false := beq_eq_false_iff_ne.2 hx
                  go_wp2_with fail
                  go_meet
                  case rel => exact ⟨by first | rfl | simp, Lib.hid (by first | rfl | trivial)⟩
              · skip
                obtain rfl : okb = false := HOK.out.trans (by unfold okB; (repeat' split) <;> (try simp) <;> omega)
                have HOK2 := HOK
                clear HOK
                have e0 : (op == 0) = false := beq_eq_false_iff_ne.2 h0
                have e1 : (op == 1) = false := beq_eq_false_iff_ne.2 h1
                have e2 : (op == 2) = false := beq_eq_false_iff_ne.2 h2
                have e3 : (op == 3) = false := beq_eq_false_iff_ne.2 h3
                subst h4
                have hv2 : (v == 0) = false := beq_eq_false_iff_ne.2 hv
                go_wp2_with fail
                go_meet
                case rel => exact ⟨by first | rfl | simp, Lib.hid (by first | rfl | trivial)⟩
            · skip
              obtain rfl : okb = false := HOK.out.trans (by unfold okB; (repeat' split) <;> (try simp) <;> omega)
              have HOK2 := HOK
              clear HOK
              have e0 : (op == 0) = false := beq_eq_false_iff_ne.2 h0
              have e1 : (op == 1) = false := beq_eq_false_iff_ne.2 h1
              have e2 : (op == 2) = false := beq_eq_false_iff_ne.2 h2
              have e3 : (op == 3) = false := beq_eq_false_iff_ne.2 h3
              have e4 : (op == 4) = false := beq_eq_false_iff_ne.2 h4
              go_wp2_with fail
              go_meet
              case rel => exact ⟨by first | rfl | simp, Lib.hid (by first | rfl | trivial)⟩
  case rest =>
  obtain ⟨rfl, HWX⟩ := hcut
  obtain rfl := HWX.out
  clear HWX c1 c2
  cases okb
  · have HE := Lib.hid (show chkE (.mk op v x gs) = 6 by unfold chkE isB; rw [HL.out, ← HOK.out]; rfl)
    clear HOK
    go_wp2_with fail
    go_ret
    exact ⟨by rw [HE.out]; rfl, HG1.out⟩
  · have HE := Lib.hid (show isB (.mk op v x gs) = isL gs by unfold isB; rw [HL.out, ← HOK.out]; rfl)
    clear HOK
    go_wp2_with fail
    go_loopw [78] (fun i wr => ∃ q : Nat, i = .int .i64 q ∧ q ≤ n ∧ Grows wc wr ∧ Hid (isL (gs.take q) = true)) (fun i _ => n - (RowKit.intOf i).toNat)
    case atStart => exact ⟨0, rfl, Nat.zero_le _, Grows.refl _, Lib.hid rfl⟩
    case round =>
      obtain ⟨q, rfl, hq, hgr, HI⟩ := hrel
      by_cases hqn : q < n
      · have hqn' : (q : Int) < n := by omega
        obtain ⟨b, o, op2, v2, x2, bs, a2, n2, cap2, rfl, hb, hel, d0, d1, d2, d3, hF2⟩ := (HF.out.below (HG1.out.trans hgr).below).elem q hqn
        have hsm := mem_small (op := op) (v := v) (x := x) hel
        have hIH := IH.out op2 v2 x2 bs a2 n2 cap2
        have hN : isL (gs.take (q + 1)) = isB (.mk op2 v2 x2 bs) := by
          have hlt : q < gs.length := by rw [HL.out]; exact hqn
          have hge : gs[q] = .mk op2 v2 x2 bs := by rw [List.getElem?_eq_getElem hlt] at hel; exact Option.some.inj hel
          rw [List.take_succ_eq_append_getElem hlt, isL_snoc, HI.out, hge]
          rfl
        have HEL := Lib.hid (show isB (.mk op2 v2 x2 bs) = false → isL gs = false from fun h => by
          rw [← List.take_append_drop (q + 1) gs, isL_app, hN, h]; rfl)
        have HN := Lib.hid hN
        have hg2 : Grows wr (wr.alloc (.cells #[.int .i64 op2, .int .i64 v2, .int .i64 x2, .slice a2 n2 cap2] 26)) := (Grows.refl _).alloc _
        have hC := hIH _ (by have := HK.out; omega) (hF2.below hg2.below)
        have HG2 := Lib.hid (hgr.trans hg2)
        clear hIH hel hsm hN hg2 hF2 HI hgr
        cases hb2 : isB (.mk op2 v2 x2 bs)
        · have he : chkE (.mk op2 v2 x2 bs) = 6 := by unfold chkE; rw [hb2]; rfl
          rw [he] at hC
          have HF2 := Lib.hid (HEL.out hb2)
          clear he hb2 HEL HN
          go_wp2_with fail
          refine hC.mono ?_
          rintro e w3 ⟨rfl, hg3⟩
          go_wp2_with fail
          go_ret
          exact ⟨by unfold chkE; rw [HE.out, HF2.out]; rfl, HG1.out.trans (HG2.out.trans hg3)⟩
        · have he : chkE (.mk op2 v2 x2 bs) = 0 := by unfold chkE; rw [hb2]; rfl
          rw [he] at hC
          have HF2 := Lib.hid (HN.out.trans hb2)
          clear he hb2 HEL HN
          go_wp2_with fail
          refine hC.mono ?_
          rintro e w3 ⟨rfl, hg3⟩
          have HG3 := Lib.hid (HG2.out.trans hg3)
          clear hg3 hC
          go_wp2_with fail
          go_roundw
          case rel => exact ⟨q + 1, by go_num, by omega, HG3.out, HF2⟩
          case measure => simp [RowKit.intOf]; omega
      · obtain rfl : q = n := by omega
        have HT := Lib.hid (show isL gs = true by rw [← HI.out, List.take_of_length_le (by rw [HL.out]; exact Nat.le_refl _)])
        have HG4 := Lib.hid (HG1.out.trans hgr)
        clear HI hgr
        go_wp2_with fail
        go_ret
        exact ⟨by unfold chkE; rw [HE.out, HT.out]; rfl, HG4.out⟩
end Go.Proofs.Ytmdanfeilgeoaaa
