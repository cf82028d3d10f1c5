/- ask.goodExpr of any expression. Printed by wip/mkqgood2.py. -/
import Derived.Test.YtkhejkfjhddobaaGreatDoorQLayM
set_option maxRecDepth 100000
set_option maxHeartbeats 16000000
namespace Go.Proofs.YtkhejkfjhddobaaGreatDoor
open Go.RowKit Gim
theorem yH3 (op : Int) (args : List Ex) (sts : List St) (nm : ByteArray) (cmp : Int) (txt : ByteArray) (num : Int) (hnm : nm.size ≤ 9223372036854775807) (htx : txt.size ≤ 9223372036854775807) (hE : ∀ x ∈ args, CEx x) (hS : ∀ x ∈ sts, CSt x) : CEx (.mk op args sts nm cmp txt num) := by
 intro w op' args' sts' nm' cmp' txt' num' a1 n1 c1 a2 n2 c2 he hF1 hF2 hT; obtain ⟨rfl, rfl, rfl, rfl, rfl, rfl, rfl⟩ := Ex.mk.inj he; clear he; have b0 : Below w.heap.size w (w.alloc (.cells #[.int .i64 op, .slice a1 n1 c1, .slice a2 n2 c2, .string nm, .int .i64 cmp, .string txt, .int .i64 num] 66)) := (jf _ _).alloc (jr _) _; have x0 := jw w (.cells #[.int .i64 op, .slice a1 n1 c1, .slice a2 n2 c2, .string nm, .int .i64 cmp, .string txt, .int .i64 num] 66); have hP := fun W (hb : Below w.heap.size w W) => yEk sts a2 n2 c2 W (hF2.below hb) (hT.below hb) hS
 have hN := fun W (hb : Below w.heap.size w W) => yCF nm W hnm (hT.below hb)
 have hX := fun W (hb : Below w.heap.size w W) => yIS txt W htx (hT.below hb)
 have hC := fun W (hb : Below w.heap.size w W) => yG8 args a1 n1 c1 W (hF1.below hb) (hT.below hb) hE
 have hl1 := hF1.len; have hl2 := hF2.len; have hcm := hF1.cap_le; have hle := hF1.le; have hnb : n1 ≤ 9223372036854775807 := by unfold maxLen at hcm; omega
 have hcm2 := hF2.cap_le; have hle2 := hF2.le; have hnb2 : n2 ≤ 9223372036854775807 := by unfold maxLen at hcm2; omega
 have HB := jh b0; have HX := jh x0; have hg : gdX (.mk op args sts nm cmp txt num) = (if op = 3 then decide (n1 = 0) && (gdP sts && ((nm.toList.isEmpty || yBm nm) && (if cmp = 0 then txt.toList.isEmpty && decide (num = 0) else if 1 ≤ cmp ∧ cmp ≤ 5 then txB txt && decide (num = 0) else if 6 ≤ cmp ∧ cmp ≤ 8 then txt.toList.isEmpty && (decide (0 ≤ num) && decide (num ≤ 1000000)) else false))) else decide (n2 = 0) && (nm.toList.isEmpty && (decide (cmp = 0) && (txt.toList.isEmpty && (decide (num = 0) && (lnB op n1 && yAQ args)))))) := by unfold gdX gdP cmB emB; rw [hl1, hl2]
 obtain ⟨g, hgg⟩ := je (yAQ args); obtain ⟨p, hpp⟩ := je (gdP sts); obtain ⟨v, hvv⟩ := je (yBm nm); obtain ⟨t, htt⟩ := je (txB txt); simp only [hgg] at hC; simp only [hpp] at hP; simp only [hvv] at hN; simp only [htt] at hX; rw [hgg, hpp, hvv, htt] at hg; rw [hg]; clear hg hgg hpp hvv htt hF1 hF2 hT hE hS b0 x0 hl1 hl2 hcm hle hcm2 hle2; obtain ⟨R, hR⟩ : ∃ R, (if op = 3 then decide (n1 = 0) && (p && ((nm.toList.isEmpty || v) && (if cmp = 0 then txt.toList.isEmpty && decide (num = 0) else if 1 ≤ cmp ∧ cmp ≤ 5 then t && decide (num = 0) else if 6 ≤ cmp ∧ cmp ≤ 8 then txt.toList.isEmpty && (decide (0 ≤ num) && decide (num ≤ 1000000)) else false))) else decide (n2 = 0) && (nm.toList.isEmpty && (decide (cmp = 0) && (txt.toList.isEmpty && (decide (num = 0) && (lnB op n1 && g)))))) = R := ⟨_, rfl⟩
 rw [hR]; have HR := jh hR; have HP := jh hP; have HN := jh hN; have HXT := jh hX; have HC := jh hC; clear hR hP hN hX hC hnm htx; by_cases h3 : op = 3
 ·subst h3; by_cases hz : n1 = 0
  ·subst hz; have HKC : Hid (∀ W, Below (w.alloc (.cells #[.int .i64 3, .slice a1 0 c1, .slice a2 n2 c2, .string nm, .int .i64 cmp, .string txt, .int .i64 num] 66)).heap.size (w.alloc (.cells #[.int .i64 3, .slice a1 0 c1, .slice a2 n2 c2, .string nm, .int .i64 cmp, .string txt, .int .i64 num] 66)) W → Below w.heap.size w W ∧ W.cell? ⟨w.heap.size, 0, none⟩ = some (.int .i64 3) ∧ W.cell? ⟨w.heap.size, 1, none⟩ = some (.slice a1 0 c1) ∧ W.cell? ⟨w.heap.size, 2, none⟩ = some (.slice a2 n2 c2) ∧ W.cell? ⟨w.heap.size, 3, none⟩ = some (.string nm) ∧ W.cell? ⟨w.heap.size, 4, none⟩ = some (.int .i64 cmp) ∧ W.cell? ⟨w.heap.size, 5, none⟩ = some (.string txt) ∧ W.cell? ⟨w.heap.size, 6, none⟩ = some (.int .i64 num)) := jh fun W hW => by have hx := (hW.block _ (jl HX.out)).trans HX.out; exact ⟨HB.out.trans (hW.mono HB.out.size), by simp [World.cell?, hx], by simp [World.cell?, hx], by simp [World.cell?, hx], by simp [World.cell?, hx], by simp [World.cell?, hx], by simp [World.cell?, hx], by simp [World.cell?, hx]⟩
   have hP1 := HP.out _ HB.out; clear HP HC HX; go_enter Tryz.func78, Tryz.ntmps78; go_wp2_with fail; refine hP1.mono ?_; rintro e w1 ⟨rfl, b1⟩; have HB1 := jh b1; obtain ⟨_, k0, k1, k2, k3, k4, k5, k6⟩ := HKC.out _ b1; clear hP1 b1; cases p
   case false =>
    go_wp2_with fail; go_ret; exact ⟨by rw [← HR.out]; first | rfl | (simp; done) | (simp; omega), (HKC.out _ HB1.out).1⟩
   case true =>
   cases hn : nm.toList.isEmpty
   case' false =>
    rw [hn] at HR; have hN1 := HN.out w1 (HKC.out _ HB1.out).1; go_wp2_with fail; refine hN1.mono ?_; rintro e w2 ⟨rfl, b2⟩; have HB2 := jh (HB1.out.trans (b2.mono HB1.out.size)); clear k0 k1 k2 k3 k4 k5 k6 hN1 b2 HB1; obtain ⟨_, k0, k1, k2, k3, k4, k5, k6⟩ := HKC.out _ HB2.out; cases v
    case false =>
     go_wp2_with fail; go_ret; exact ⟨by rw [← HR.out]; first | rfl | (simp; done) | (simp; omega), (HKC.out _ HB2.out).1⟩
   case' true =>
    rw [hn] at HR; have HB2 := HB1; clear HB1
   all_goals
    have hX1 := HXT.out _ (HKC.out _ HB2.out).1; rcases (by omega : cmp = 0 ∨ (1 ≤ cmp ∧ cmp ≤ 5) ∨ (6 ≤ cmp ∧ cmp ≤ 8) ∨ (cmp < 0 ∨ 8 < cmp)) with hk | hk | hk | hk
    ·subst hk; cases ht : txt.toList.isEmpty
     all_goals
      rw [ht] at HR; go_wp2_with fail; go_ret; exact ⟨by rw [← HR.out]; first | rfl | (simp; done) | (simp; omega), (HKC.out _ HB2.out).1⟩
    ·rcases (by omega : cmp = 1 ∨ cmp = 2 ∨ cmp = 3 ∨ cmp = 4 ∨ cmp = 5) with rfl | rfl | rfl | rfl | rfl
     all_goals
      go_wp2_with fail; refine hX1.mono ?_; rintro e w9 ⟨rfl, b9⟩; have HB9 := jh (HB2.out.trans (b9.mono HB2.out.size)); clear k0 k1 k2 k3 k4 k5 k6 hX1 b9; obtain ⟨_, k0, k1, k2, k3, k4, k5, k6⟩ := HKC.out _ HB9.out; cases t
      all_goals
       go_wp2_with fail; go_ret; exact ⟨by rw [← HR.out]; first | rfl | (simp; done) | (simp; omega), (HKC.out _ HB9.out).1⟩
    ·rcases (by omega : cmp = 6 ∨ cmp = 7 ∨ cmp = 8) with rfl | rfl | rfl
     all_goals
      cases ht : txt.toList.isEmpty
      all_goals
       rw [ht] at HR; by_cases hu : 0 ≤ num
       all_goals
        go_wp2_with fail; go_ret; exact ⟨by rw [← HR.out]; first | rfl | (simp; done) | (simp; omega) | (simp [hu]; done), (HKC.out _ HB2.out).1⟩
    ·have e0 : (cmp == 0) = false := jn.2 (by omega); have e1 : (cmp == 1) = false := jn.2 (by omega); have e2 : (cmp == 2) = false := jn.2 (by omega); have e3 : (cmp == 3) = false := jn.2 (by omega); have e4 : (cmp == 4) = false := jn.2 (by omega); have e5 : (cmp == 5) = false := jn.2 (by omega); have e6 : (cmp == 6) = false := jn.2 (by omega); have e7 : (cmp == 7) = false := jn.2 (by omega); have e8 : (cmp == 8) = false := jn.2 (by omega); have f1 : ¬ (1 ≤ cmp ∧ cmp ≤ 5) := by omega
     have f2 : ¬ (6 ≤ cmp ∧ cmp ≤ 8) := by omega
     have f0 : ¬ cmp = 0 := by omega
     have HR2 := jh (show false = R by rw [← HR.out]; simp [f0, f1, f2]); clear f0 f1 f2 hk; go_wp2_with fail; go_ret; exact ⟨by rw [← HR2.out]; rfl, (HKC.out _ HB2.out).1⟩
  ·have hz2 : 0 < (n1 : Int) := by omega
   have HR2 := jh (show false = R by rw [← HR.out]; simp [hz]); clear hz HP HN HXT HC HR; go_enter Tryz.func78, Tryz.ntmps78; go_wp2_with fail; go_ret; exact ⟨by rw [← HR2.out]; rfl, HB.out⟩
 ·have e3 : (op == 3) = false := jn.2 h3; rw [if_neg h3] at HR; clear HP HN HXT; by_cases hz : n2 = 0
  rotate_left
  ·have hz2 : 0 < (n2 : Int) := by omega
   have HR2 := jh (show false = R by rw [← HR.out]; simp [hz]); clear hz HC HR; go_enter Tryz.func78, Tryz.ntmps78; go_wp2_with fail; go_ret; exact ⟨by rw [← HR2.out]; rfl, HB.out⟩
  subst hz; cases hn : nm.toList.isEmpty
  ·have HR2 := jh (show false = R by rw [← HR.out, hn]; simp); clear HC HR; go_enter Tryz.func78, Tryz.ntmps78; go_wp2_with fail; go_ret; exact ⟨by rw [← HR2.out]; rfl, HB.out⟩
  by_cases hk : cmp = 0
  rotate_left
  ·have e4 : (cmp != 0) = true := by simp [hk]
   have HR2 := jh (show false = R by rw [← HR.out]; simp [hk]); clear hk HC HR; go_enter Tryz.func78, Tryz.ntmps78; go_wp2_with fail; go_ret; exact ⟨by rw [← HR2.out]; rfl, HB.out⟩
  subst hk; cases ht : txt.toList.isEmpty
  ·have HR2 := jh (show false = R by rw [← HR.out, ht]; simp); clear HC HR; go_enter Tryz.func78, Tryz.ntmps78; go_wp2_with fail; go_ret; exact ⟨by rw [← HR2.out]; rfl, HB.out⟩
  by_cases hu : num = 0
  rotate_left
  ·have e4 : (num != 0) = true := by simp [hu]
   have HR2 := jh (show false = R by rw [← HR.out]; simp [hu]); clear hu HC HR; go_enter Tryz.func78, Tryz.ntmps78; go_wp2_with fail; go_ret; exact ⟨by rw [← HR2.out]; rfl, HB.out⟩
  subst hu; have hC1 := HC.out _ HB.out; by_cases ho : op = 0
  ·subst ho; by_cases hy : 2 ≤ n1
   ·have hy2 : ¬ (n1 : Int) < 2 := by omega
    have HR2 := jh (show g = R by rw [← HR.out, hn, ht]; simp [lnB, hy]); clear hy HR; go_enter Tryz.func78, Tryz.ntmps78; go_wp2_with fail; refine hC1.mono ?_; rintro e w1 ⟨rfl, b1⟩; have HB1 := jh (HB.out.trans (b1.mono HB.out.size)); clear hC1 b1; go_wp2_with fail; go_ret; exact ⟨by rw [← HR2.out]; simp, HB1.out⟩
   ·have hy2 : (n1 : Int) < 2 := by omega
    have HR2 := jh (show false = R by rw [← HR.out, hn, ht]; simp [lnB, hy]); clear hy HR hC1; go_enter Tryz.func78, Tryz.ntmps78; go_wp2_with fail; go_ret; exact ⟨by rw [← HR2.out]; rfl, HB.out⟩
  by_cases ho : op = 1
  ·subst ho; by_cases hy : 2 ≤ n1
   ·have hy2 : ¬ (n1 : Int) < 2 := by omega
    have HR2 := jh (show g = R by rw [← HR.out, hn, ht]; simp [lnB, hy]); clear hy HR; go_enter Tryz.func78, Tryz.ntmps78; go_wp2_with fail; refine hC1.mono ?_; rintro e w1 ⟨rfl, b1⟩; have HB1 := jh (HB.out.trans (b1.mono HB.out.size)); clear hC1 b1; go_wp2_with fail; go_ret; exact ⟨by rw [← HR2.out]; simp, HB1.out⟩
   ·have hy2 : (n1 : Int) < 2 := by omega
    have HR2 := jh (show false = R by rw [← HR.out, hn, ht]; simp [lnB, hy]); clear hy HR hC1; go_enter Tryz.func78, Tryz.ntmps78; go_wp2_with fail; go_ret; exact ⟨by rw [← HR2.out]; rfl, HB.out⟩
  by_cases ho : op = 2
  ·subst ho; by_cases hy : n1 = 1
   ·subst hy; have HR2 := jh (show g = R by rw [← HR.out, hn, ht]; simp [lnB]); clear HR; go_enter Tryz.func78, Tryz.ntmps78; go_wp2_with fail; refine hC1.mono ?_; rintro e w1 ⟨rfl, b1⟩; have HB1 := jh (HB.out.trans (b1.mono HB.out.size)); clear hC1 b1; go_wp2_with fail; go_ret; exact ⟨by rw [← HR2.out]; simp, HB1.out⟩
   ·have hy2 : ((n1 : Int) != 1) = true := by simp; omega
    have HR2 := jh (show false = R by rw [← HR.out, hn, ht]; simp [lnB, hy]); clear hy HR hC1; go_enter Tryz.func78, Tryz.ntmps78; go_wp2_with fail; go_ret; exact ⟨by rw [← HR2.out]; rfl, HB.out⟩
  have o0 : (op == 0) = false := jn.2 (by omega); have o1 : (op == 1) = false := jn.2 (by omega); have o2 : (op == 2) = false := jn.2 (by omega); have HR2 := jh (show false = R by rw [← HR.out, hn, ht]; simp only [lnB]; rw [if_neg (by omega), if_neg (by omega)]; simp); clear HR hC1; go_enter Tryz.func78, Tryz.ntmps78; go_wp2_with fail; go_ret; exact ⟨by rw [← HR2.out]; rfl, HB.out⟩
theorem yQY : ∀ (k : Nat) (x : Ex), SizeOf.sizeOf x ≤ k → wX x ≤ 9223372036854775807 → CEx x := by
 intro k
 induction k with
 | zero => intro x hk; cases x; exact absurd hk (by simp)
 | succ k ih =>
  intro x hk hw; cases x with
  | mk op args sts nm cmp txt num =>
  unfold wX at hw; simp only [Ex.mk.sizeOf_spec] at hk; refine yH3 op args sts nm cmp txt num (by omega) (by omega) (fun x hx => ?_) fun y hy => ?_
  ·obtain ⟨i, hi⟩ := List.mem_iff_getElem?.1 hx; have h1 := yB0 hi; have h2 := yDn hi; exact ih x (by omega) (by omega)
  ·obtain ⟨i, hi⟩ := List.mem_iff_getElem?.1 hy; have h1 := yDa hi; have h2 := yFq hi; cases y with
   | mk ax ts nm2 wh =>
   unfold wT at h2; simp only [St.mk.sizeOf_spec] at h1; refine yEA ax ts nm2 wh (by omega) fun z hz => ?_
   obtain ⟨j, hj⟩ := List.mem_iff_getElem?.1 hz; have h3 := yB0 hj; have h4 := yDn hj; exact ih z (by omega) (by omega)
theorem yK7 (sts : List St) (a : Option Addr) (n cap : Nat) (w : World) (hF : yAH w sts a n cap) (hT : yBd w) (hw : wTL sts ≤ 9223372036854775807) :
  Calls Tryz.prog 24 #[.agg #[.slice a n cap]] w fun e w' => e = .returned (.bool (gdP sts)) ∧ Below w.heap.size w w' :=
 yEk sts a n cap w hF hT fun y hy => by
  obtain ⟨i, hi⟩ := List.mem_iff_getElem?.1 hy; have h2 := yFq hi; cases y with
  | mk ax ts nm2 wh =>
  unfold wT at h2; refine yEA ax ts nm2 wh (by omega) fun z hz => ?_
  obtain ⟨j, hj⟩ := List.mem_iff_getElem?.1 hz; have h4 := yDn hj; exact yQY _ z (jr _) (by omega)
def DEx (x : Ex) : Prop := ∀ (W : World) (op : Int) (args : List Ex) (sts : List St) (nm : ByteArray) (cmp : Int) (txt : ByteArray) (num : Int) (a1 : Option Addr) (n1 c1 : Nat) (a2 : Option Addr) (n2 c2 : Nat), x = .mk op args sts nm cmp txt num → yAM W args a1 n1 c1 → yAH W sts a2 n2 c2 →
 Calls Tryz.prog 48 #[.agg #[.int .i64 op, .slice a1 n1 c1, .slice a2 n2 c2, .string nm, .int .i64 cmp, .string txt, .int .i64 num]] W fun e w' => e = .returned (.int .i64 (dpX x)) ∧ Below W.heap.size W w'
def DSt : St → Prop
 | .mk _ _ _ wh => ∀ x ∈ wh, DEx x
theorem yP3 (a b : Int) (w : World) : Calls Tryz.prog 79 #[.int .i64 a, .int .i64 b] w fun e w' => e = .returned (.bool (brB a b)) ∧ w' = w := by
 unfold brB; by_cases h1 : b = 1
 ·subst h1; by_cases h2 : a = 2
  ·subst h2; go_enter Tryz.func79, Tryz.ntmps79; go_wp2_with fail; go_ret; exact ⟨rfl, rfl⟩
  ·have e1 : (a != 2) = true := by simp [h2]
   have HD := jh (show decide (a ≠ 2) = true by simp [h2]); clear h2; go_enter Tryz.func79, Tryz.ntmps79; go_wp2_with fail; go_ret; exact ⟨by rw [HD.out]; rfl, rfl⟩
 ·have e0 : (b == 1) = false := jn.2 h1; have HD := jh (show decide (b = 1) = false by simp [h1]); clear h1; by_cases h2 : a = 0
  ·subst h2; go_enter Tryz.func79, Tryz.ntmps79; go_wp2_with fail; go_ret; exact ⟨by rw [HD.out]; simp [Bool.beq_eq_decide_eq], rfl⟩
  ·have e2 : (a == 0) = false := jn.2 h2; have HD2 := jh (show decide (a = 0) = false by simp [h2]); clear h2; go_enter Tryz.func79, Tryz.ntmps79; go_wp2_with fail; go_ret; exact ⟨by rw [HD.out, HD2.out]; rfl, rfl⟩
theorem yEC (sts : List St) (a : Option Addr) (n cap : Nat) (w : World) (hF : yAH w sts a n cap) (hw : wTL sts ≤ 1152921504606846976) (hE : ∀ y ∈ sts, DSt y) :
  Calls Tryz.prog 25 #[.agg #[.slice a n cap]] w fun e w' => e = .returned (.int .i64 (yC5 0 sts)) ∧ Below w.heap.size w w' := by
 have b0 : Below w.heap.size w (w.alloc (.cells #[.slice a n cap] 25)) := (jf _ _).alloc (jr _) _; have hbx := jw w (.cells #[.slice a n cap] 25); obtain ⟨W1, hW1⟩ := je (w.alloc (.cells #[.slice a n cap] 25)); rw [hW1] at b0 hbx; have hcm := hF.cap_le; have hle := hF.le; have hnb : n ≤ 9223372036854775807 := by unfold maxLen at hcm; omega
 have HL := jh hF.len; have HF := jh hF; have HB0 := jh b0; have HE := jh hE; have HW := jh hw; clear hF b0 hE hw; go_enter Tryz.func25, Tryz.ntmps25; go_upto_region 1 with fail
 try rw [hW1]
 clear hW1; have c0 := jc hbx 0 rfl; clear hbx; go_wp2_with fail; go_loopw [3, 11] (fun s i wr => ∃ (q : Nat) (m : Int), i = .int .i64 q ∧ q ≤ n ∧ s = .int .i64 m ∧ Below w.heap.size w wr ∧ Hid (m = yC5 0 (sts.take q))) (fun _ i _ => n - (intOf i).toNat)
 case atStart => exact ⟨0, 0, rfl, jz _, rfl, HB0.out, jh (by simp [yC5])⟩
 case round =>
  obtain ⟨q, m, rfl, hq, rfl, hb, HM⟩ := hrel; by_cases hqn : q < n
  ·have hqn' : (q : Int) < n := by omega
   obtain ⟨b, o, ax, ts, nm, wh, a1, n1, c1, rfl, hbb, hel, d0, d1, d2, d3, hF1⟩ := (HF.out.below hb).elem q hqn; have hZ := HE.out _ (List.mem_of_getElem? hel); have b2 : Below wr.heap.size wr (wr.alloc (.cells #[.int .i64 ax, .int .i64 ts, .string nm, .slice a1 n1 c1] 64)) := (jf _ _).alloc (jr _) _; have HB2 := jh (hb.trans (b2.mono hb.size)); have HF1 := jh (hF1.below b2); have hNX := yAT hel; have hcm1 := hF1.cap_le; have hle1 := hF1.le; have hnb1 : n1 ≤ 9223372036854775807 := by unfold maxLen at hcm1; omega
   have HL1 := jh hF1.len; have HZ := jh hZ; have hwm := yFq hel; have HOUT := jh (show yC5 0 (sts.take (q + 1)) = yEu m wh by rw [hNX, yMN, ← HM.out]; simp only [yC5, dpT]); have HBD := jh (show wXL wh ≤ 1152921504606846976 by have h3 := HW.out; unfold wT at hwm; omega); have HM0 := jh (show 0 ≤ m by rw [HM.out]; exact (yHV 0 _ (by omega)).1); clear hb hF1 hel hNX hcm1 hle1 hZ b2 hwm HM; go_wp2_with fail; go_loopw [3, 18] (fun s i wx => ∃ (r : Nat) (m2 : Int), i = .int .i64 r ∧ r ≤ n1 ∧ s = .int .i64 m2 ∧ Below w.heap.size w wx ∧ yAM wx wh a1 n1 c1 ∧ Hid (m2 = yEu m (wh.take r))) (fun _ i _ => n1 - (intOf i).toNat)
   case atStart => exact ⟨0, m, rfl, jz _, rfl, HB2.out, HF1.out, jh (by simp [yEu])⟩
   case round =>
    obtain ⟨r, m2, rfl, hr, rfl, hbx, hFx, HM2⟩ := hrel; by_cases hrn : r < n1
    ·have hrn' : (r : Int) < n1 := by omega
     obtain ⟨bx, ox, op, args, xs, xn, cmp, txt, num, a3, n3, c3, a4, n4, c4, rfl, hbb3, hel, f0, f1, f2, f3, f4, f5, f6, hF3, hF4⟩ := hFx.elem r hrn; have b3 := (jf wr.heap.size wr).alloc (jr _) (.cells #[.int .i64 op, .slice a3 n3 c3, .slice a4 n4 c4, .string xn, .int .i64 cmp, .string txt, .int .i64 num] 66); have hC := HZ.out _ (List.mem_of_getElem? hel) _ op args xs xn cmp txt num a3 n3 c3 a4 n4 c4 rfl (hF3.below b3) (hF4.below b3); have HB3 := jh (hbx.trans (b3.mono hbx.size)); have HF3 := jh (hFx.below b3); have hNX := yAT hel; have hwm := yDn hel; obtain ⟨x, hx⟩ := je (Ex.mk op args xs xn cmp txt num); rw [hx] at hC hNX hwm hel; have HN := jh (show yEu m (wh.take (r + 1)) = max m2 (1 + dpX x) by rw [hNX, yMW, ← HM2.out]; simp only [yEu]); have hd := yGC x; have hbd := HBD.out; obtain ⟨s2, hs2⟩ := je (dpX x); rw [hs2] at hC hd HN; have hw : wrap64 ((1 : Int) + s2) = 1 + s2 := by unfold wrap64; omega
     have HMX := jh (show (if m2 < 1 + s2 then 1 + s2 else m2) = max m2 (1 + s2) by split <;> omega); clear hbx hFx hNX hel hwm hx HM2 hF3 hF4 b3 hbd hs2 hd; go_wp2_with fail; refine hC.mono ?_; rintro e w3 ⟨rfl, b4⟩; have HB4 := jh (HB3.out.trans (b4.mono HB3.out.size)); have HF4 := jh (HF3.out.below b4); clear hC b4 f0 f1 f2 f3 f4 f5 f6; go_wp2_with fail; go_roundw
     case rel => exact ⟨r + 1, max m2 (1 + s2), by go_num, by omega, by first | rfl | (rw [HMX.out]) | (simp only [HMX.out]), HB4.out, HF4.out, jh HN.out.symm⟩
     case measure => simp [intOf]; omega
    ·obtain rfl : r = n1 := by omega
     have HE2 := jh (show m2 = yEu m wh by rw [HM2.out, jm (by rw [HL1.out]; exact jr _)]); have HB4 := jh hbx; clear HM2 hbx hFx; go_wp2_with fail; go_roundw
     case rel => exact ⟨q + 1, m2, by go_num, by omega, rfl, HB4.out, jh (HE2.out.trans HOUT.out.symm)⟩
     case measure => simp [intOf]; omega
  ·obtain rfl : q = n := by omega
   have HE3 := jh (show m = yC5 0 sts by have h := HM.out; rw [jm (by rw [HL.out]; exact jr _)] at h; exact h); have HB4 := jh hb; clear HM hb; go_wp2_with fail; go_ret; exact ⟨by rw [← HE3.out]; rfl, HB4.out⟩
theorem yH7 (op : Int) (args : List Ex) (sts : List St) (nm : ByteArray) (cmp : Int) (txt : ByteArray) (num : Int) (hw : wX (.mk op args sts nm cmp txt num) ≤ 1152921504606846976) (hlen : op = 2 → args.length = 1) (hA : op ≠ 3 → ∀ x ∈ args, DEx x) (hS : op = 3 → ∀ y ∈ sts, DSt y) : DEx (.mk op args sts nm cmp txt num) := by
 intro w op' args' sts' nm' cmp' txt' num' a1 n1 c1 a2 n2 c2 he hF1 hF2; obtain ⟨rfl, rfl, rfl, rfl, rfl, rfl, rfl⟩ := Ex.mk.inj he; clear he; have b0 : Below w.heap.size w (w.alloc (.cells #[.int .i64 op, .slice a1 n1 c1, .slice a2 n2 c2, .string nm, .int .i64 cmp, .string txt, .int .i64 num] 66)) := (jf _ _).alloc (jr _) _; have hbx := jw w (.cells #[.int .i64 op, .slice a1 n1 c1, .slice a2 n2 c2, .string nm, .int .i64 cmp, .string txt, .int .i64 num] 66); have hlt : w.heap.size < (w.alloc (.cells #[.int .i64 op, .slice a1 n1 c1, .slice a2 n2 c2, .string nm, .int .i64 cmp, .string txt, .int .i64 num] 66)).heap.size := by simp
 obtain ⟨W1, hW1⟩ := je (w.alloc (.cells #[.int .i64 op, .slice a1 n1 c1, .slice a2 n2 c2, .string nm, .int .i64 cmp, .string txt, .int .i64 num] 66)); rw [hW1] at b0 hbx hlt; have hse : dpX (.mk op args sts nm cmp txt num) = if op = 3 then (if 3 ≤ cmp then yC5 0 sts + 1 else yC5 0 sts) else if op = 2 then yNe args else dpA op 0 args := by unfold dpX; rfl
 rw [hse]; unfold wX at hw; have hcm := hF1.cap_le; have hle := hF1.le; have hnb : n1 ≤ 9223372036854775807 := by unfold maxLen at hcm; omega
 have HB0 := jh b0; have HBX := jh hbx; have HLT := jh hlt; have k0 := jc hbx 0 rfl; have k1 := jc hbx 1 rfl; have k2 := jc hbx 2 rfl; by_cases h3 : op = 3
 ·have hP := yEC sts a2 n2 c2 W1 (hF2.below b0) (by omega) (hS h3); have hd := yHV 0 sts (by omega); subst h3; rw [if_pos rfl]; obtain ⟨d, hdd⟩ := je (yC5 0 sts); rw [hdd] at hP hd ⊢; have hwp : wrap64 (d + 1) = d + 1 := by unfold wrap64; omega
  clear hF1 hF2 b0 hA hS hw hse hcm hle hbx hlen hlt hdd hd; by_cases hc : 3 ≤ cmp
  ·rw [if_pos hc]; go_enter Tryz.func48, Tryz.ntmps48; go_upto_region 1 with fail
   try rw [hW1]
   clear hW1; go_wp2_with fail; refine hP.mono ?_; rintro e w2 ⟨rfl, b2⟩; have hx := (b2.block _ (jl HBX.out)).trans HBX.out; have k4 := jc hx 4 rfl; have HB2 := jh (HB0.out.trans (b2.mono HB0.out.size)); clear hP b2 hx k0 k1 k2; go_wp2_with fail; go_ret; exact ⟨by first | rfl | (simp only [hwp]; rfl) | (rw [← hwp]; rfl), HB2.out⟩
  ·rw [if_neg hc]; go_enter Tryz.func48, Tryz.ntmps48; go_upto_region 1 with fail
   try rw [hW1]
   clear hW1; go_wp2_with fail; refine hP.mono ?_; rintro e w2 ⟨rfl, b2⟩; have hx := (b2.block _ (jl HBX.out)).trans HBX.out; have k4 := jc hx 4 rfl; have HB2 := jh (HB0.out.trans (b2.mono HB0.out.size)); clear hP b2 hx k0 k1 k2; go_wp2_with fail; go_ret; exact ⟨rfl, HB2.out⟩
 ·have e3 : (op == 3) = false := jn.2 h3; have HE := jh (hA h3); rw [if_neg h3]; have HF1 := jh (hF1.below b0); by_cases h2 : op = 2
  ·rw [if_pos h2]; have hl := hlen h2; subst h2; have hln : n1 = 1 := by rw [← hF1.len]; exact hl
   subst hln; clear e3 h3
   match args, hl, hF1, HE, HF1, hw with
   | [y], _, hF1, HE, HF1, hw =>
   have hq : (0 : Nat) < 1 := by omega
   obtain ⟨bx, ox, op2, args2, xs, xn, cmp2, txt2, num2, a3, n3, c3, a4, n4, c4, rfl, hbb3, hel, f0, f1, f2, f3, f4, f5, f6, hF3, hF4⟩ := HF1.out.elem 0 hq; simp only [List.getElem?_cons_zero, Option.some.injEq] at hel; have hC := HE.out y (by simp) W1 op2 args2 xs xn cmp2 txt2 num2 a3 n3 c3 a4 n4 c4 hel hF3 hF4; have hd := yGC y; have hwy : wX y ≤ 1152921504606846976 := by unfold wXL at hw; omega
   have HH := jh (show yNe [y] = 1 + dpX y by simp [yNe]); obtain ⟨s2, hs2⟩ := je (dpX y); rw [hs2] at hC hd HH; have hwp : wrap64 ((1 : Int) + s2) = 1 + s2 := by unfold wrap64; omega
   simp only [Nat.zero_mul, Nat.add_zero] at f0 f1 f2 f3 f4 f5 f6; clear hF1 hF2 b0 hA hS hw hse hcm hle hbx hlen hlt hd hel hwy hs2 hF3 hF4; go_enter Tryz.func48, Tryz.ntmps48; go_upto_region 1 with fail
   try rw [hW1]
   clear hW1; go_wp2_with fail; refine hC.mono ?_; rintro e w2 ⟨rfl, b2⟩; have HB2 := jh (HB0.out.trans (b2.mono HB0.out.size)); clear hC b2 k0 k1 k2 f0 f1 f2 f3 f4 f5 f6; go_wp2_with fail; go_ret; exact ⟨by rw [HH.out]; first | rfl | (simp only [hwp]; rfl) | (rw [← hwp]; rfl), HB2.out⟩
  ·have e2 : (op == 2) = false := jn.2 h2; rw [if_neg h2]; have HL := jh hF1.len; have HW := jh (show wXL args ≤ 1152921504606846976 by omega); clear hF1 hF2 b0 hA hS hw hse hcm hle hbx hlen hlt h2 h3; go_enter Tryz.func48, Tryz.ntmps48; go_upto_region 1 with fail
   try rw [hW1]
   clear hW1; go_wp2_with fail; go_loopw [4, 32] (fun s i wr => ∃ (q : Nat) (m : Int), i = .int .i64 q ∧ q ≤ n1 ∧ s = .int .i64 m ∧ Below W1.heap.size W1 wr ∧ Hid (m = dpA op 0 (args.take q))) (fun _ i _ => n1 - (intOf i).toNat)
   case atStart => exact ⟨0, 0, rfl, jz _, rfl, jf _ _, jh (by simp [dpA])⟩
   case round =>
    obtain ⟨q, m, rfl, hq, rfl, hb, HM⟩ := hrel; by_cases hqn : q < n1
    ·have hqn' : (q : Int) < n1 := by omega
     obtain ⟨bx, ox, op2, args2, xs, xn, cmp2, txt2, num2, a3, n3, c3, a4, n4, c4, rfl, hbb3, hel, f0, f1, f2, f3, f4, f5, f6, hF3, hF4⟩ := (HF1.out.below hb).elem q hqn; have b3 := (jf wr.heap.size wr).alloc (jr _) (.cells #[.int .i64 op2, .slice a3 n3 c3, .slice a4 n4 c4, .string xn, .int .i64 cmp2, .string txt2, .int .i64 num2] 66); have x3 := jw wr (.cells #[.int .i64 op2, .slice a3 n3 c3, .slice a4 n4 c4, .string xn, .int .i64 cmp2, .string txt2, .int .i64 num2] 66); have hC := HE.out _ (List.mem_of_getElem? hel) _ op2 args2 xs xn cmp2 txt2 num2 a3 n3 c3 a4 n4 c4 rfl (hF3.below b3) (hF4.below b3); have HB3 := jh (hb.trans (b3.mono hb.size)); have HX3 := jh x3; have hNX := yAT hel; have hwm := yDn hel; have HOP := jh (show opX (.mk op2 args2 xs xn cmp2 txt2 num2) = op2 by simp [opX]); obtain ⟨x, hx⟩ := je (Ex.mk op2 args2 xs xn cmp2 txt2 num2); rw [hx] at hC hNX hel hwm HOP; have HN := jh (show dpA op 0 (args.take (q + 1)) = max m (if brB op op2 = true then dpX x + 1 else dpX x) by rw [hNX, yO6, ← HM.out]; simp only [dpA, HOP.out]); have hd := yGC x; have hbd := HW.out; have hm0 : 0 ≤ m := by rw [HM.out]; exact (yOn op 0 _ (by omega)).1
     have hBR := fun W => yP3 op op2 W
     obtain ⟨s2, hs2⟩ := je (dpX x); obtain ⟨br, hbr⟩ := je (brB op op2); rw [hs2] at hC hd HN; simp only [hbr] at hBR HN; have hw : wrap64 (s2 + 1) = s2 + 1 := by unfold wrap64; omega
     clear hb hNX hel hx HM hF3 hF4 b3 hbd hs2 x3 hd hwm hbr HOP; cases br
     ·have HMX := jh (show (if m < s2 then s2 else m) = max m s2 by split <;> omega); go_wp2_with fail; refine hC.mono ?_; rintro e w3 ⟨rfl, b4⟩; have hx4 := (b4.block _ (jl HX3.out)).trans HX3.out; have j0 := jc hx4 0 rfl; have HB4 := jh (HB3.out.trans (b4.mono HB3.out.size)); have hx5 := (HB4.out.block _ HLT.out).trans HBX.out; have j1 := jc hx5 0 rfl; clear hC b4 f0 f1 f2 f3 f4 f5 f6 hx4 hx5; go_wp2_with fail; refine (hBR _).mono ?_; rintro e w4 ⟨rfl, rfl⟩; go_wp2_with fail; go_roundw
      case rel => exact ⟨q + 1, max m s2, by go_num, by omega, by first | rfl | (rw [HMX.out]) | (simp only [HMX.out]), HB4.out, jh (by rw [HN.out]; simp)⟩
      case measure => simp [intOf]; omega
     ·have HMX := jh (show (if m < s2 + 1 then s2 + 1 else m) = max m (s2 + 1) by split <;> omega); go_wp2_with fail; refine hC.mono ?_; rintro e w3 ⟨rfl, b4⟩; have hx4 := (b4.block _ (jl HX3.out)).trans HX3.out; have j0 := jc hx4 0 rfl; have HB4 := jh (HB3.out.trans (b4.mono HB3.out.size)); have hx5 := (HB4.out.block _ HLT.out).trans HBX.out; have j1 := jc hx5 0 rfl; clear hC b4 f0 f1 f2 f3 f4 f5 f6 hx4 hx5; go_wp2_with fail; refine (hBR _).mono ?_; rintro e w4 ⟨rfl, rfl⟩; go_wp2_with fail; go_roundw
      case rel => exact ⟨q + 1, max m (s2 + 1), by go_num, by omega, by first | rfl | (rw [HMX.out]) | (simp only [HMX.out]), HB4.out, jh (by rw [HN.out]; simp)⟩
      case measure => simp [intOf]; omega
    ·obtain rfl : q = n1 := by omega
     have HE3 := jh (show m = dpA op 0 args by have h := HM.out; rw [jm (by rw [HL.out]; exact jr _)] at h; exact h); have HB4 := jh (HB0.out.trans (hb.mono HB0.out.size)); clear HM hb; go_wp2_with fail; go_ret; exact ⟨by rw [← HE3.out]; rfl, HB4.out⟩
end Go.Proofs.YtkhejkfjhddobaaGreatDoor
namespace Gim
theorem yGb : ∀ {l : List Ex}, yAQ l = true → ∀ x ∈ l, gdX x = true
 | [], _, x, h => by cases h
 | y :: r, h, x, hx => by
  unfold yAQ at h; rw [jb] at h; rcases List.mem_cons.1 hx with e | e
  ·rw [e]; exact h.1
  ·exact yGb h.2 x e
theorem yIp : ∀ {l : List St}, yBk l = true → ∀ x ∈ l, gdT x = true
 | [], _, x, h => by cases h
 | y :: r, h, x, hx => by
  unfold yBk at h; rw [jb] at h; rcases List.mem_cons.1 hx with e | e
  ·rw [e]; exact h.1
  ·exact yIp h.2 x e
end Gim
namespace Go.Proofs.YtkhejkfjhddobaaGreatDoor
open Go.RowKit Gim
theorem yRJ : ∀ (k : Nat) (x : Ex), SizeOf.sizeOf x ≤ k → wX x ≤ 1152921504606846976 → gdX x = true → DEx x := by
 intro k
 induction k with
 | zero => intro x hk; cases x; exact absurd hk (by simp)
 | succ k ih =>
  intro x hk hw hg; cases x with
  | mk op args sts nm cmp txt num =>
  have hw2 := hw; unfold wX at hw; simp only [Ex.mk.sizeOf_spec] at hk; unfold gdX at hg; refine yH7 op args sts nm cmp txt num hw2 (fun h2 => ?_) (fun h3 x hx => ?_) fun h3 y hy => ?_
  ·subst h2; simp [lnB] at hg; exact hg.2.2.2.2.2.1
  ·rw [if_neg h3] at hg; simp only [jb] at hg; obtain ⟨i, hi⟩ := List.mem_iff_getElem?.1 hx; have h1 := yB0 hi; have h2 := yDn hi; exact ih x (by omega) (by omega) (yGb hg.2.2.2.2.2.2 x hx)
  ·rw [if_pos h3] at hg; simp only [jb] at hg; have hgy := yIp hg.2.1.2 y hy; obtain ⟨i, hi⟩ := List.mem_iff_getElem?.1 hy; have h1 := yDa hi; have h2 := yFq hi; cases y with
   | mk ax ts nm2 wh =>
   unfold wT at h2; unfold gdT at hgy; simp only [jb] at hgy; simp only [St.mk.sizeOf_spec] at h1; intro z hz; obtain ⟨j, hj⟩ := List.mem_iff_getElem?.1 hz; have h3 := yB0 hj; have h4 := yDn hj; exact ih z (by omega) (by omega) (yGb hgy.2.2 z hz)
theorem yLg (sts : List St) (a : Option Addr) (n cap : Nat) (w : World) (hF : yAH w sts a n cap) (hw : wTL sts ≤ 1152921504606846976) (hg : gdP sts = true) :
  Calls Tryz.prog 25 #[.agg #[.slice a n cap]] w fun e w' => e = .returned (.int .i64 (yC5 0 sts)) ∧ Below w.heap.size w w' :=
 yEC sts a n cap w hF hw fun y hy => by
  unfold gdP at hg; rw [jb] at hg; have hgy := yIp hg.2 y hy; obtain ⟨i, hi⟩ := List.mem_iff_getElem?.1 hy; have h2 := yFq hi; cases y with
  | mk ax ts nm2 wh =>
  unfold wT at h2; unfold gdT at hgy; simp only [jb] at hgy; intro z hz; obtain ⟨j, hj⟩ := List.mem_iff_getElem?.1 hz; have h4 := yDn hj; exact yRJ _ z (jr _) (by omega) (yGb hgy.2.2 z hz)
end Go.Proofs.YtkhejkfjhddobaaGreatDoor
namespace Gim
open Go Go.RowKit
def okP (sts : List St) : Bool := gdP sts && decide (yC5 0 sts ≤ 200)
def szP (sts : List St) : Nat := sts.length + yBe sts
theorem yQO (sts : List St) : szP sts ≤ wTL sts := yKx sts
end Gim
namespace Go.Proofs.YtkhejkfjhddobaaGreatDoor
open Go.RowKit Gim
theorem yDi (sts : List St) (a : Option Addr) (n cap : Nat) (w : World) (hF : yAH w sts a n cap) (hw : wTL sts ≤ 1152921504606846976) (hT : yBd w) :
  Calls Tryz.prog 10 #[.agg #[.slice a n cap]] w fun e w' => e = .returned (.int .i64 (if okP sts = true then 0 else 6)) ∧ Below w.heap.size w w' := by
 have b0 : Below w.heap.size w (w.alloc (.cells #[.slice a n cap] 25)) := (jf _ _).alloc (jr _) _; have x0 := jw w (.cells #[.slice a n cap] 25); have hP := yK7 sts a n cap _ (hF.below b0) (hT.below b0) (by omega); have hD := fun W (hg : gdP sts = true) (hb : Below w.heap.size w W) => yLg sts a n cap W (hF.below hb) hw hg
 have HB := jh b0; have HX := jh x0; unfold okP; clear hF hT b0 x0; cases hg : gdP sts
 ·rw [hg] at hP; clear hD hg; go_enter Tryz.func10, Tryz.ntmps10; go_wp2_with fail; refine hP.mono ?_; rintro e w1 ⟨rfl, b1⟩; have HB1 := jh (HB.out.trans (b1.mono HB.out.size)); clear hP b1; go_wp2_with fail; go_ret; exact ⟨rfl, HB1.out⟩
 ·have hD1 := fun W => hD W hg
  rw [hg] at hP; obtain ⟨d, hd⟩ := je (yC5 0 sts); simp only [hd] at hD1 ⊢; have HD := jh hD1; clear hD hg hD1 hd; by_cases h2 : d ≤ 200
  ·rw [show decide (d ≤ 200) = true by simp [h2]]; simp only [Bool.true_and, if_true]; have h3 : ¬ 200 < d := by omega
   go_enter Tryz.func10, Tryz.ntmps10; go_wp2_with fail; refine hP.mono ?_; rintro e w1 ⟨rfl, b1⟩; have hx := (b1.block _ (jl HX.out)).trans HX.out; have k0 := jc hx 0 rfl; have HB1 := jh (HB.out.trans (b1.mono HB.out.size)); have hC := HD.out w1 HB1.out; clear hP b1 hx; go_wp2_with fail; refine hC.mono ?_; rintro e w2 ⟨rfl, b2⟩; have HB2 := jh (HB1.out.trans (b2.mono HB1.out.size)); clear hC b2 k0; go_wp2_with fail; go_ret; exact ⟨rfl, HB2.out⟩
  ·rw [show decide (d ≤ 200) = false by simp; omega]; simp only [Bool.and_false, Bool.false_eq_true, if_false]; have h3 : 200 < d := by omega
   go_enter Tryz.func10, Tryz.ntmps10; go_wp2_with fail; refine hP.mono ?_; rintro e w1 ⟨rfl, b1⟩; have hx := (b1.block _ (jl HX.out)).trans HX.out; have k0 := jc hx 0 rfl; have HB1 := jh (HB.out.trans (b1.mono HB.out.size)); have hC := HD.out w1 HB1.out; clear hP b1 hx; go_wp2_with fail; refine hC.mono ?_; rintro e w2 ⟨rfl, b2⟩; have HB2 := jh (HB1.out.trans (b2.mono HB1.out.size)); clear hC b2 k0; go_wp2_with fail; go_ret; exact ⟨rfl, HB2.out⟩
end Go.Proofs.YtkhejkfjhddobaaGreatDoor
