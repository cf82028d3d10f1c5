/- kleene.vars of any formula: its variables behind those of a list. Printed by wip/mkvars.py. -/
import Derived.Test.YtmdanfeilgeoaaaKTree2
import Derived.Test.YtmdanfeilgeoaaaKVals
import Derived.Test.YtmdanfeilgeoaaaKOrder
import Derived.Deep.CutRange
import Derived.Deep.CutBlock
namespace Gim
mutual
theorem varsF_len : ∀ f : Fm, (varsF f).length ≤ szF f
  | .mk op v x gs => by
    have := varsL_len gs
    unfold varsF szF
    rw [List.length_append]
    split <;> simp <;> omega
theorem varsL_len : ∀ gs : List Fm, (varsL gs).length ≤ szL gs
  | [] => Nat.le_refl _
  | f :: r => by
    have h1 := varsF_len f
    have h2 := varsL_len r
    unfold varsL szL
    rw [List.length_append]
    omega
end
end Gim
namespace Go.Proofs.Ytmdanfeilgeoaaa
open Go.RowKit Gim Go.Sort
set_option maxRecDepth 100000 in
set_option maxHeartbeats 8000000 in
theorem vars_calls : ∀ (k : Nat) (op v x : Int) (gs : List Fm) (a : Option Addr) (n cap : Nat) (w0 w : World) (vl : Value) (ys : List Int), SizeOf.sizeOf (Fm.mk op v x gs) ≤ k → FitS w0 gs a n cap → Below w0.heap.size w0 w → Row w w0.heap.size 3 .i64 vl ys → ys.length + szF (.mk op v x gs) ≤ 549755813888 →
    Calls Try.prog 40 #[.agg #[.int .i64 op, .int .i64 v, .int .i64 x, .slice a n cap], vl] w fun e w' => ∃ v', e = .returned v' ∧ Row w' w0.heap.size 3 .i64 v' (ys ++ varsF (.mk op v x gs)) ∧ Below w0.heap.size w0 w' := by
  intro k
  induction k with
  | zero => intro op v x gs a n cap w0 w vl ys hk; exact absurd hk (by simp)
  | succ k ih =>
  intro op v x gs a n cap w0 w vl ys hk hF hbw hrow hlen
  have hcm := hF.cap_le
  have hle := hF.le
  have hnb : n ≤ 9223372036854775807 := by unfold maxLen at hcm; omega
  have HL := Lib.hid hF.len
  have HF := Lib.hid hF
  have HK := Lib.hid hk
  have IH := Lib.hid ih
  have HLEN := Lib.hid (show ys.length + 1 + szL gs ≤ 549755813888 by unfold szF at hlen; omega)
  have hbx := heap_alloc_new w (.cells #[.int .i64 op, .int .i64 v, .int .i64 x, .slice a n cap] 26)
  have hrow1 : Row (w.alloc (.cells #[.int .i64 op, .int .i64 v, .int .i64 x, .slice a n cap] 26)) w0.heap.size 3 .i64 vl ys := World.ownsRow.alloc hrow _
  have hb1 := hbw.alloc hbw.size (.cells #[.int .i64 op, .int .i64 v, .int .i64 x, .slice a n cap] 26)
  have hown : ∀ g, vl.ownBlock = some g → g < w.heap.size := fun g hg => (hrow.lt g hg).2
  obtain ⟨W1, hW1⟩ : ∃ W1, w.alloc (.cells #[.int .i64 op, .int .i64 v, .int .i64 x, .slice a n cap] 26) = W1 := ⟨_, rfl⟩
  rw [hW1] at hbx hrow1 hb1
  clear hF hk ih hbw hrow hlen
  go_enter Try.func40, Try.ntmps40
  go_upto_region 1 with fail
  try rw [hW1]
  clear hW1
  obtain ⟨B, hB⟩ : ∃ B, w.heap.size = B := ⟨_, rfl⟩
  rw [hB] at hbx ⊢
  have hownB : ∀ g, vl.ownBlock = some g → g < B := fun g hg => by have := hown g hg; omega
  clear hown hB
  have b0 : W1.cell? ⟨B, 0, none⟩ = some (.int .i64 op) := by simp [World.cell?, hbx]
  have b2 : W1.cell? ⟨B, 2, none⟩ = some (.int .i64 x) := by simp [World.cell?, hbx]
  have b3 : W1.cell? ⟨B, 3, none⟩ = some (.slice a n cap) := by simp [World.cell?, hbx]
  have HBX := Lib.hid hbx
  have hsz1 := hb1.size
  have hly : ys.length < 1099511627776 := by have := HLEN.out; omega
  clear hbx
  by_cases ho : op = 1
  · have e0 : (op == 1) = true := by simp [ho]
    have HV := Lib.hid (show varsF (.mk op v x gs) = [x] ++ varsL gs by unfold varsF; rw [if_pos ho])
    clear ho
    have b2' : ∀ o, (W1.alloc o).cell? ⟨B, 2, none⟩ = some (.int .i64 x) := fun o => by
      have h := heap_alloc_old W1 o (Array.getElem?_eq_some_iff.1 HBX.out).1
      simp only [World.cell?, h, HBX.out]
      rfl
    go_upto_region 3 with (at_builtin; refine append1 _ rfl _ _ 50 rfl w0.heap.size 3 .i64 8 info_int Try.underlying50 vl ys rfl hrow1 _ rfl hly (by decide) hsz1 ?_; intro v3 W3 hown3 hgrow3)
    have hb3 : Below w0.heap.size w0 W3 := hb1.grown hgrow3 hsz1 (fun j hj => (hrow1.lt j hj).1)
    have c3 : W3.cell? ⟨B, 3, none⟩ = some (.slice a n cap) := by
      have h := (hgrow3.block B (Array.getElem?_eq_some_iff.1 HBX.out).1 (fun e => by have := hownB B e.symm; omega)).trans HBX.out
      simp [World.cell?, h]
    have HYL := Lib.hid (show (ys ++ [x]).length + szL gs ≤ 549755813888 by have := HLEN.out; simp; omega)
    clear hgrow3 hrow1 hb1 b0 b2 b3 b2' hsz1
    go_wp2_with fail
    go_loopw [1, 18] (fun vv i wr => ∃ q : Nat, i = .int .i64 q ∧ q ≤ n ∧ Row wr w0.heap.size 3 .i64 vv ((ys ++ [x]) ++ varsL (gs.take q)) ∧ Below w0.heap.size w0 wr) (fun _ i _ => n - (RowKit.intOf i).toNat)
    case atStart => exact ⟨0, rfl, Nat.zero_le _, by simpa [varsL] using hown3, hb3⟩
    case round =>
      obtain ⟨q, rfl, hq, hr, hbr⟩ := hrel
      by_cases hqn : q < n
      · have hqn' : (q : Int) < n := by omega
        obtain ⟨b, o, op2, v2, x2, bs, a2, n2, cap2, rfl, hb, hel, f0, f1, f2, f3, hF2⟩ := HF.out.elem q hqn
        have d0 := (hbr.cell (p := ⟨b, o + q * 4, none⟩) hb).trans f0
        have d1 := (hbr.cell (p := ⟨b, o + q * 4 + 1, none⟩) hb).trans f1
        have d2 := (hbr.cell (p := ⟨b, o + q * 4 + 2, none⟩) hb).trans f2
        have d3 := (hbr.cell (p := ⟨b, o + q * 4 + 3, none⟩) hb).trans f3
        have hsm := mem_small (op := op) (v := v) (x := x) hel
        have hNX := take_next hel
        have hN : (ys ++ [x]) ++ varsL (gs.take (q + 1)) = ((ys ++ [x]) ++ varsL (gs.take q)) ++ varsF (.mk op2 v2 x2 bs) := by
          rw [hNX, varsL_app, List.append_assoc]
          simp [varsL]
        have hbd := szL_take_le gs (q + 1)
        rw [hNX, szL_app] at hbd
        have hvl := varsL_len (gs.take q)
        have hl2 : ((ys ++ [x]) ++ varsL (gs.take q)).length + szF (.mk op2 v2 x2 bs) ≤ 549755813888 := by
          have := HYL.out
          rw [List.length_append]
          simp only [szL] at hbd
          omega
        have hC := IH.out op2 v2 x2 bs a2 n2 cap2 w0 _ _ _ (by have := HK.out; omega) hF2 (hbr.alloc hbr.size (.cells #[.int .i64 op2, .int .i64 v2, .int .i64 x2, .slice a2 n2 cap2] 26)) (World.ownsRow.alloc hr _) hl2
        have HN := Lib.hid hN
        clear hel hsm hN hF2 hNX hbd hvl hl2 f0 f1 f2 f3 hbr hr
        go_wp2_with fail
        refine hC.mono ?_
        rintro e w3 ⟨v4, rfl, hr3, hb3⟩
        rw [← HN.out] at hr3
        clear hC
        go_wp2_with fail
        go_roundw
        case rel => exact ⟨q + 1, by go_num, by omega, hr3, hb3⟩
        case measure => simp [RowKit.intOf]; omega
      · obtain rfl : q = n := by omega
        rw [List.take_of_length_le (by rw [HL.out]; exact Nat.le_refl _)] at hr
        go_wp2_with fail
        go_ret
        exact ⟨_, rfl, by rw [HV.out]; rw [← List.append_assoc]; exact hr, hbr⟩
  · have e0 : (op == 1) = false := beq_eq_false_iff_ne.2 ho
    have HV := Lib.hid (show varsF (.mk op v x gs) = varsL gs by unfold varsF; rw [if_neg ho]; rfl)
    clear ho
    have HYL := Lib.hid (show ys.length + szL gs ≤ 549755813888 by have := HLEN.out; omega)
    go_wp2_with fail
    go_loopw [1, 18] (fun vv i wr => ∃ q : Nat, i = .int .i64 q ∧ q ≤ n ∧ Row wr w0.heap.size 3 .i64 vv (ys ++ varsL (gs.take q)) ∧ Below w0.heap.size w0 wr) (fun _ i _ => n - (RowKit.intOf i).toNat)
    case atStart => exact ⟨0, rfl, Nat.zero_le _, by simpa [varsL] using hrow1, hb1⟩
    case round =>
      obtain ⟨q, rfl, hq, hr, hbr⟩ := hrel
      by_cases hqn : q < n
      · have hqn' : (q : Int) < n := by omega
        obtain ⟨b, o, op2, v2, x2, bs, a2, n2, cap2, rfl, hb, hel, f0, f1, f2, f3, hF2⟩ := HF.out.elem q hqn
        have d0 := (hbr.cell (p := ⟨b, o + q * 4, none⟩) hb).trans f0
        have d1 := (hbr.cell (p := ⟨b, o + q * 4 + 1, none⟩) hb).trans f1
        have d2 := (hbr.cell (p := ⟨b, o + q * 4 + 2, none⟩) hb).trans f2
        have d3 := (hbr.cell (p := ⟨b, o + q * 4 + 3, none⟩) hb).trans f3
        have hsm := mem_small (op := op) (v := v) (x := x) hel
        have hNX := take_next hel
        have hN : ys ++ varsL (gs.take (q + 1)) = (ys ++ varsL (gs.take q)) ++ varsF (.mk op2 v2 x2 bs) := by
          rw [hNX, varsL_app, List.append_assoc]
          simp [varsL]
        have hbd := szL_take_le gs (q + 1)
        rw [hNX, szL_app] at hbd
        have hvl := varsL_len (gs.take q)
        have hl2 : (ys ++ varsL (gs.take q)).length + szF (.mk op2 v2 x2 bs) ≤ 549755813888 := by
          have := HYL.out
          rw [List.length_append]
          simp only [szL] at hbd
          omega
        have hC := IH.out op2 v2 x2 bs a2 n2 cap2 w0 _ _ _ (by have := HK.out; omega) hF2 (hbr.alloc hbr.size (.cells #[.int .i64 op2, .int .i64 v2, .int .i64 x2, .slice a2 n2 cap2] 26)) (World.ownsRow.alloc hr _) hl2
        have HN := Lib.hid hN
        clear hel hsm hN hF2 hNX hbd hvl hl2 f0 f1 f2 f3 hbr hr
        go_wp2_with fail
        refine hC.mono ?_
        rintro e w3 ⟨v4, rfl, hr3, hb3⟩
        rw [← HN.out] at hr3
        clear hC
        go_wp2_with fail
        go_roundw
        case rel => exact ⟨q + 1, by go_num, by omega, hr3, hb3⟩
        case measure => simp [RowKit.intOf]; omega
      · obtain rfl : q = n := by omega
        rw [List.take_of_length_le (by rw [HL.out]; exact Nat.le_refl _)] at hr
        go_wp2_with fail
        go_ret
        exact ⟨_, rfl, by rw [HV.out]; exact hr, hbr⟩
end Go.Proofs.Ytmdanfeilgeoaaa
