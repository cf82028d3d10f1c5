/- gimletlaw24.GaugeBound answers true of any path of bulk at most 1048576. Printed by wip/mkqmain.py. -/
import Derived.Test.YtghepjbfhjkinaaDoorQBound2
import Derived.Test.YtghepjbfhjkinaaDoorPkMain
namespace Gim
open Go Go.RowKit
theorem main_facts {s D K P T M : Nat} {Z : Int} (hs : s ≤ 262144) (hD : D ≤ 100000) (hK : 16 * (D + 1) = K) (hP : s * s = P) (hT : K * P = T) (hM : K * s = M) (hZ : Int.tdiv 4611686018427387904 (K : Int) = Z) :
    decide ((s : Int) < 2147483648) = true ∧ wrap64 ((D : Int) + 1) = D + 1 ∧ wrap64 (16 * ((D : Int) + 1)) = K ∧ wrap64 ((s : Int) * s) = P ∧ wrap64 ((K : Int) * s) = M ∧ wrap64 ((M : Int) * s) = T ∧ decide ((P : Int) ≤ Z) = true ∧ wrap64 Z = Z ∧ K ≠ 0 := by
  obtain ⟨q1, q2, q3, q4⟩ := sq_small hs (show K ≤ 1600016 by omega)
  have e1 : ((s : Int) * s) = ((s * s : Nat) : Int) := by push_cast; rfl
  have e2 : ((K : Int) * s) = ((K * s : Nat) : Int) := by push_cast; rfl
  have e3 : (((K * s : Nat) : Int) * s) = ((K * s * s : Nat) : Int) := by push_cast; rfl
  have h4 : P ≤ 4611686018427387904 / K := by
    rw [Nat.le_div_iff_mul_le (by omega), ← hP, Nat.mul_comm]
    omega
  have h5 : Int.tdiv 4611686018427387904 (K : Int) = ((4611686018427387904 / K : Nat) : Int) := by rw [Int.tdiv_eq_ediv_of_nonneg (by omega)]; rfl
  have h6 : 4611686018427387904 / K ≤ 4611686018427387904 := Nat.div_le_self _ _
  rw [h5] at hZ
  rw [hM] at q2 e2 e3
  refine ⟨decide_eq_true (by omega), wrap64s _ (by omega) (by omega), (wrap64s _ (by omega) (by omega)).trans (by omega), ?_, ?_, ?_, decide_eq_true (by omega), wrap64s _ (by omega) (by omega), by omega⟩
  · rw [e1, hP]
    rw [hP] at q1
    exact wrap64s _ (by omega) (by omega)
  · rw [e2]
    exact wrap64s _ (by omega) (by omega)
  · rw [e3, ← hM, q4, hP, hT]
    rw [hP, hT] at q3
    exact wrap64s _ (by omega) (by omega)
end Gim
namespace Go.Proofs.YtghepjbfhjkinaaDoor
open Go.RowKit Gim
set_option maxRecDepth 100000 in
set_option maxHeartbeats 8000000 in
theorem gaugeBound_great (sts : List St) (a : Option Addr) (n cap : Nat) (depth : Int) (w : World) (hF : FitTS w sts a n cap) (hw : wTL sts ≤ 1048576) (hT : Laid w) (hr : restTL sts 262144 < 0) :
    Calls Tryd.prog 3 #[.agg #[.slice a n cap], .int .i64 depth] w fun e w' => e = .returned (.bool true) ∧ Below w.heap.size w w' := by
  have b0 : Below w.heap.size w (w.alloc (.cells #[.slice a n cap] 24)) := (Below.refl _ _).alloc (Nat.le_refl _) _
  have x0 := heap_alloc_new w (.cells #[.slice a n cap] 24)
  have hlt : w.heap.size < (w.alloc (.cells #[.slice a n cap] 24)).heap.size := by simp
  obtain ⟨W1, hW1⟩ : ∃ W1, w.alloc (.cells #[.slice a n cap] 24) = W1 := ⟨_, rfl⟩
  rw [hW1] at b0 x0 hlt
  have hGr := great_calls sts a n cap W1 (hF.below b0) (by omega)
  have hAw := fun W (hb : Below W1.heap.size W1 W) => awake_calls W ((hT.below b0).below hb)
  have hBo := fun (h : wTL sts ≤ 262144) W (hb : Below W1.heap.size W1 W) => bound_calls sts a n cap depth W ((hF.below b0).below hb) h ((hT.below b0).below hb)
  have hSi := fun W (hb : Below W1.heap.size W1 W) => askSize_calls sts a n cap W ((hF.below b0).below hb) (by omega) ((hT.below b0).below hb)
  have k0 : W1.cell? ⟨w.heap.size, 0, none⟩ = some (.slice a n cap) := by simp [World.cell?, x0]
  have HB0 := Lib.hid b0
  have HX := Lib.hid x0
  have HLT := Lib.hid hlt
  have HAW := Lib.hid hAw
  clear hF hT b0 x0 hlt hAw hw
  rw [decide_eq_true hr] at hGr
  clear hr hBo hSi
  go_enter Tryd.func3, Tryd.ntmps3
  go_upto_region 1 with fail
  try rw [hW1]
  clear hW1
  go_wp2_with fail
  refine hGr.mono ?_
  rintro e w2 ⟨rfl, b2⟩
  have HB2 := Lib.hid b2
  have hA := HAW.out w2 b2
  clear hGr b2 k0
  go_wp2_with fail
  refine hA.mono ?_
  rintro e w3 ⟨rfl, b3⟩
  have HB3 := Lib.hid (HB2.out.trans (b3.mono HB2.out.size))
  clear hA b3
  go_wp2_with fail
  go_ret
  exact ⟨by first | rfl | simp, HB0.out.trans (HB3.out.mono HB0.out.size)⟩
set_option maxRecDepth 100000 in
set_option maxHeartbeats 8000000 in
theorem gaugeBound_bad (sts : List St) (a : Option Addr) (n cap : Nat) (depth : Int) (w : World) (hF : FitTS w sts a n cap) (hw : wTL sts ≤ 1048576) (hT : Laid w) (hr : ¬ restTL sts 262144 < 0) (hg : okP sts = false) :
    Calls Tryd.prog 3 #[.agg #[.slice a n cap], .int .i64 depth] w fun e w' => e = .returned (.bool true) ∧ Below w.heap.size w w' := by
  have b0 : Below w.heap.size w (w.alloc (.cells #[.slice a n cap] 24)) := (Below.refl _ _).alloc (Nat.le_refl _) _
  have x0 := heap_alloc_new w (.cells #[.slice a n cap] 24)
  have hlt : w.heap.size < (w.alloc (.cells #[.slice a n cap] 24)).heap.size := by simp
  obtain ⟨W1, hW1⟩ : ∃ W1, w.alloc (.cells #[.slice a n cap] 24) = W1 := ⟨_, rfl⟩
  rw [hW1] at b0 x0 hlt
  have hGr := great_calls sts a n cap W1 (hF.below b0) (by omega)
  have hAw := fun W (hb : Below W1.heap.size W1 W) => awake_calls W ((hT.below b0).below hb)
  have hBo := fun (h : wTL sts ≤ 262144) W (hb : Below W1.heap.size W1 W) => bound_calls sts a n cap depth W ((hF.below b0).below hb) h ((hT.below b0).below hb)
  have hSi := fun W (hb : Below W1.heap.size W1 W) => askSize_calls sts a n cap W ((hF.below b0).below hb) (by omega) ((hT.below b0).below hb)
  have k0 : W1.cell? ⟨w.heap.size, 0, none⟩ = some (.slice a n cap) := by simp [World.cell?, x0]
  have HB0 := Lib.hid b0
  have HX := Lib.hid x0
  have HLT := Lib.hid hlt
  have HAW := Lib.hid hAw
  clear hF hT b0 x0 hlt hAw hw
  rw [decide_eq_false hr] at hGr
  have hwr := restTL_le sts 262144
  have hw : wTL sts ≤ 262144 := by omega
  have hsz := Nat.le_trans (szP_le sts) hw
  have hBo2 := hBo hw
  clear hr hwr hw hBo
  simp only [hg] at hBo2 hSi
  try simp only [Bool.false_eq_true, if_false] at hBo2 hSi
  have HBO := Lib.hid hBo2
  have HSI := Lib.hid hSi
  clear hg hsz hBo2 hSi
  go_enter Tryd.func3, Tryd.ntmps3
  go_upto_region 1 with fail
  try rw [hW1]
  clear hW1
  go_wp2_with fail
  refine hGr.mono ?_
  rintro e w2 ⟨rfl, b2⟩
  have HB2 := Lib.hid b2
  have hA := HAW.out w2 b2
  clear hGr b2 k0
  go_wp2_with fail
  refine hA.mono ?_
  rintro e w3 ⟨rfl, b3⟩
  have HB3 := Lib.hid (HB2.out.trans (b3.mono HB2.out.size))
  clear hA b3
  have hx := (HB3.out.block _ HLT.out).trans HX.out
  have k3 : w3.cell? ⟨w.heap.size, 0, none⟩ = some (.slice a n cap) := by simp [World.cell?, hx]
  clear hx
  have hB := HBO.out w3 HB3.out
  go_wp2_with fail
  refine hB.mono ?_
  rintro e w4 ⟨rfl, b4⟩
  have HB4 := Lib.hid (HB3.out.trans (b4.mono HB3.out.size))
  clear hB b4 k3
  have hx := (HB4.out.block _ HLT.out).trans HX.out
  have k4 : w4.cell? ⟨w.heap.size, 0, none⟩ = some (.slice a n cap) := by simp [World.cell?, hx]
  clear hx
  have hS := HSI.out w4 HB4.out
  go_wp2_with fail
  refine hS.mono ?_
  rintro e w5 ⟨rfl, b5⟩
  have HB5 := Lib.hid (HB4.out.trans (b5.mono HB4.out.size))
  clear hS b5 k4
  go_wp2_with fail
  go_ret
  exact ⟨by first | rfl | simp, HB0.out.trans (HB5.out.mono HB0.out.size)⟩
set_option maxRecDepth 100000 in
set_option maxHeartbeats 8000000 in
theorem gaugeBound_mid (sts : List St) (a : Option Addr) (n cap : Nat) (depth : Int) (w : World) (hF : FitTS w sts a n cap) (hw : wTL sts ≤ 1048576) (hT : Laid w) (hr : ¬ restTL sts 262144 < 0) (hg : okP sts = true) (h0 : 0 ≤ depth) (h1 : depth ≤ 100000) :
    Calls Tryd.prog 3 #[.agg #[.slice a n cap], .int .i64 depth] w fun e w' => e = .returned (.bool true) ∧ Below w.heap.size w w' := by
  have b0 : Below w.heap.size w (w.alloc (.cells #[.slice a n cap] 24)) := (Below.refl _ _).alloc (Nat.le_refl _) _
  have x0 := heap_alloc_new w (.cells #[.slice a n cap] 24)
  have hlt : w.heap.size < (w.alloc (.cells #[.slice a n cap] 24)).heap.size := by simp
  obtain ⟨W1, hW1⟩ : ∃ W1, w.alloc (.cells #[.slice a n cap] 24) = W1 := ⟨_, rfl⟩
  rw [hW1] at b0 x0 hlt
  have hGr := great_calls sts a n cap W1 (hF.below b0) (by omega)
  have hAw := fun W (hb : Below W1.heap.size W1 W) => awake_calls W ((hT.below b0).below hb)
  have hBo := fun (h : wTL sts ≤ 262144) W (hb : Below W1.heap.size W1 W) => bound_calls sts a n cap depth W ((hF.below b0).below hb) h ((hT.below b0).below hb)
  have hSi := fun W (hb : Below W1.heap.size W1 W) => askSize_calls sts a n cap W ((hF.below b0).below hb) (by omega) ((hT.below b0).below hb)
  have k0 : W1.cell? ⟨w.heap.size, 0, none⟩ = some (.slice a n cap) := by simp [World.cell?, x0]
  have HB0 := Lib.hid b0
  have HX := Lib.hid x0
  have HLT := Lib.hid hlt
  have HAW := Lib.hid hAw
  clear hF hT b0 x0 hlt hAw hw
  rw [decide_eq_false hr] at hGr
  have hwr := restTL_le sts 262144
  have hw : wTL sts ≤ 262144 := by omega
  have hsz := Nat.le_trans (szP_le sts) hw
  have hBo2 := hBo hw
  clear hr hwr hw hBo
  simp only [hg] at hBo2 hSi
  try simp only [if_true] at hBo2 hSi
  obtain ⟨s, hss⟩ : ∃ s, szP sts = s := ⟨_, rfl⟩
  rw [hss] at hsz
  simp only [hss] at hBo2 hSi
  have HSI := Lib.hid hSi
  clear hg hss hSi
  simp only [if_pos (And.intro h0 h1)] at hBo2
  obtain ⟨D, rfl⟩ := Int.eq_ofNat_of_zero_le h0
  simp only [Int.toNat_natCast] at hBo2
  have hD : D ≤ 100000 := by omega
  have h2 : decide (100000 < (D : Int)) = false := decide_eq_false (Int.not_lt.2 h1)
  have h3 : decide ((D : Int) < 0) = false := decide_eq_false (Int.not_lt.2 h0)
  obtain ⟨K, hK⟩ : ∃ K, 16 * (D + 1) = K := ⟨_, rfl⟩
  obtain ⟨P, hP⟩ : ∃ P, s * s = P := ⟨_, rfl⟩
  obtain ⟨T, hT⟩ : ∃ T, K * P = T := ⟨_, rfl⟩
  obtain ⟨M, hM⟩ : ∃ M, K * s = M := ⟨_, rfl⟩
  obtain ⟨Z, hZ⟩ : ∃ Z, Int.tdiv 4611686018427387904 (K : Int) = Z := ⟨_, rfl⟩
  simp only [hK, hP, hT] at hBo2
  obtain ⟨u1, u2, u3, u4, u5, u6, u7, u8, u9⟩ := main_facts hsz hD hK hP hT hM hZ
  have HBO := Lib.hid hBo2
  clear hK hP hT hM hBo2 hsz hD h0 h1
  have U1 := Lib.hid u1
  have U2 := Lib.hid u2
  have U3 := Lib.hid u3
  have U4 := Lib.hid u4
  have U5 := Lib.hid u5
  have U6 := Lib.hid u6
  have U7 := Lib.hid u7
  have U8 := Lib.hid u8
  have U9 := Lib.hid u9
  have HZ := Lib.hid hZ
  have H2 := Lib.hid h2
  have H3 := Lib.hid h3
  clear u1 u2 u3 u4 u5 u6 u7 u8 u9 hZ h2 h3
  go_enter Tryd.func3, Tryd.ntmps3
  go_upto_region 1 with fail
  try rw [hW1]
  clear hW1
  go_wp2_with fail
  refine hGr.mono ?_
  rintro e w2 ⟨rfl, b2⟩
  have HB2 := Lib.hid b2
  have hA := HAW.out w2 b2
  clear hGr b2 k0
  go_wp2_with fail
  refine hA.mono ?_
  rintro e w3 ⟨rfl, b3⟩
  have HB3 := Lib.hid (HB2.out.trans (b3.mono HB2.out.size))
  clear hA b3
  have hx := (HB3.out.block _ HLT.out).trans HX.out
  have k3 : w3.cell? ⟨w.heap.size, 0, none⟩ = some (.slice a n cap) := by simp [World.cell?, hx]
  clear hx
  have hB := HBO.out w3 HB3.out
  go_wp2_with fail
  refine hB.mono ?_
  rintro e w4 ⟨rfl, b4⟩
  have HB4 := Lib.hid (HB3.out.trans (b4.mono HB3.out.size))
  clear hB b4 k3
  have hx := (HB4.out.block _ HLT.out).trans HX.out
  have k4 : w4.cell? ⟨w.heap.size, 0, none⟩ = some (.slice a n cap) := by simp [World.cell?, hx]
  clear hx
  have hS := HSI.out w4 HB4.out
  go_wp2_with fail
  refine hS.mono ?_
  rintro e w5 ⟨rfl, b5⟩
  have HB5 := Lib.hid (HB4.out.trans (b5.mono HB4.out.size))
  clear hS b5 k4
  have u1 := U1.out
  have u2 := U2.out
  have u3 := U3.out
  have u4 := U4.out
  have u5 := U5.out
  have u6 := U6.out
  have u7 := U7.out
  have u8 := U8.out
  have u9 := U9.out
  have hZ := HZ.out
  have h2 := H2.out
  have h3 := H3.out
  have u9' : ¬ ((K : Int) = 0) := fun h => u9 (Int.natCast_eq_zero.1 h)
  go_upto_region 9 with fail
  go_upto_region 12 with fail
  go_upto_region 13 with fail
  go_upto_region 14 with fail
  go_upto_region 15 with fail
  go_upto_region 16 with fail
  go_wp2_with fail
  go_ret
  exact ⟨by first | rfl | simp, HB0.out.trans (HB5.out.mono HB0.out.size)⟩
set_option maxRecDepth 100000 in
set_option maxHeartbeats 8000000 in
theorem gaugeBound_high (sts : List St) (a : Option Addr) (n cap : Nat) (depth : Int) (w : World) (hF : FitTS w sts a n cap) (hw : wTL sts ≤ 1048576) (hT : Laid w) (hr : ¬ restTL sts 262144 < 0) (hg : okP sts = true) (h0 : 0 ≤ depth) (h1 : ¬ depth ≤ 100000) :
    Calls Tryd.prog 3 #[.agg #[.slice a n cap], .int .i64 depth] w fun e w' => e = .returned (.bool true) ∧ Below w.heap.size w w' := by
  have b0 : Below w.heap.size w (w.alloc (.cells #[.slice a n cap] 24)) := (Below.refl _ _).alloc (Nat.le_refl _) _
  have x0 := heap_alloc_new w (.cells #[.slice a n cap] 24)
  have hlt : w.heap.size < (w.alloc (.cells #[.slice a n cap] 24)).heap.size := by simp
  obtain ⟨W1, hW1⟩ : ∃ W1, w.alloc (.cells #[.slice a n cap] 24) = W1 := ⟨_, rfl⟩
  rw [hW1] at b0 x0 hlt
  have hGr := great_calls sts a n cap W1 (hF.below b0) (by omega)
  have hAw := fun W (hb : Below W1.heap.size W1 W) => awake_calls W ((hT.below b0).below hb)
  have hBo := fun (h : wTL sts ≤ 262144) W (hb : Below W1.heap.size W1 W) => bound_calls sts a n cap depth W ((hF.below b0).below hb) h ((hT.below b0).below hb)
  have hSi := fun W (hb : Below W1.heap.size W1 W) => askSize_calls sts a n cap W ((hF.below b0).below hb) (by omega) ((hT.below b0).below hb)
  have k0 : W1.cell? ⟨w.heap.size, 0, none⟩ = some (.slice a n cap) := by simp [World.cell?, x0]
  have HB0 := Lib.hid b0
  have HX := Lib.hid x0
  have HLT := Lib.hid hlt
  have HAW := Lib.hid hAw
  clear hF hT b0 x0 hlt hAw hw
  rw [decide_eq_false hr] at hGr
  have hwr := restTL_le sts 262144
  have hw : wTL sts ≤ 262144 := by omega
  have hsz := Nat.le_trans (szP_le sts) hw
  have hBo2 := hBo hw
  clear hr hwr hw hBo
  simp only [hg] at hBo2 hSi
  try simp only [if_true] at hBo2 hSi
  obtain ⟨s, hss⟩ : ∃ s, szP sts = s := ⟨_, rfl⟩
  rw [hss] at hsz
  simp only [hss] at hBo2 hSi
  have HSI := Lib.hid hSi
  clear hg hss hSi
  simp only [if_neg (fun h : 0 ≤ depth ∧ depth ≤ 100000 => h1 h.2)] at hBo2
  have HBO := Lib.hid hBo2
  have h2 : decide (100000 < depth) = true := decide_eq_true (Int.not_le.1 h1)
  have h3 : decide (depth < 0) = false := decide_eq_false (Int.not_lt.2 h0)
  clear h0 h1 hBo2 hsz
  go_enter Tryd.func3, Tryd.ntmps3
  go_upto_region 1 with fail
  try rw [hW1]
  clear hW1
  go_wp2_with fail
  refine hGr.mono ?_
  rintro e w2 ⟨rfl, b2⟩
  have HB2 := Lib.hid b2
  have hA := HAW.out w2 b2
  clear hGr b2 k0
  go_wp2_with fail
  refine hA.mono ?_
  rintro e w3 ⟨rfl, b3⟩
  have HB3 := Lib.hid (HB2.out.trans (b3.mono HB2.out.size))
  clear hA b3
  have hx := (HB3.out.block _ HLT.out).trans HX.out
  have k3 : w3.cell? ⟨w.heap.size, 0, none⟩ = some (.slice a n cap) := by simp [World.cell?, hx]
  clear hx
  have hB := HBO.out w3 HB3.out
  go_wp2_with fail
  refine hB.mono ?_
  rintro e w4 ⟨rfl, b4⟩
  have HB4 := Lib.hid (HB3.out.trans (b4.mono HB3.out.size))
  clear hB b4 k3
  have hx := (HB4.out.block _ HLT.out).trans HX.out
  have k4 : w4.cell? ⟨w.heap.size, 0, none⟩ = some (.slice a n cap) := by simp [World.cell?, hx]
  clear hx
  have hS := HSI.out w4 HB4.out
  go_wp2_with fail
  refine hS.mono ?_
  rintro e w5 ⟨rfl, b5⟩
  have HB5 := Lib.hid (HB4.out.trans (b5.mono HB4.out.size))
  clear hS b5 k4
  go_wp2_with fail
  go_ret
  exact ⟨by first | rfl | simp, HB0.out.trans (HB5.out.mono HB0.out.size)⟩
set_option maxRecDepth 100000 in
set_option maxHeartbeats 8000000 in
theorem gaugeBound_low (sts : List St) (a : Option Addr) (n cap : Nat) (depth : Int) (w : World) (hF : FitTS w sts a n cap) (hw : wTL sts ≤ 1048576) (hT : Laid w) (hr : ¬ restTL sts 262144 < 0) (hg : okP sts = true) (h0 : ¬ 0 ≤ depth) :
    Calls Tryd.prog 3 #[.agg #[.slice a n cap], .int .i64 depth] w fun e w' => e = .returned (.bool true) ∧ Below w.heap.size w w' := by
  have b0 : Below w.heap.size w (w.alloc (.cells #[.slice a n cap] 24)) := (Below.refl _ _).alloc (Nat.le_refl _) _
  have x0 := heap_alloc_new w (.cells #[.slice a n cap] 24)
  have hlt : w.heap.size < (w.alloc (.cells #[.slice a n cap] 24)).heap.size := by simp
  obtain ⟨W1, hW1⟩ : ∃ W1, w.alloc (.cells #[.slice a n cap] 24) = W1 := ⟨_, rfl⟩
  rw [hW1] at b0 x0 hlt
  have hGr := great_calls sts a n cap W1 (hF.below b0) (by omega)
  have hAw := fun W (hb : Below W1.heap.size W1 W) => awake_calls W ((hT.below b0).below hb)
  have hBo := fun (h : wTL sts ≤ 262144) W (hb : Below W1.heap.size W1 W) => bound_calls sts a n cap depth W ((hF.below b0).below hb) h ((hT.below b0).below hb)
  have hSi := fun W (hb : Below W1.heap.size W1 W) => askSize_calls sts a n cap W ((hF.below b0).below hb) (by omega) ((hT.below b0).below hb)
  have k0 : W1.cell? ⟨w.heap.size, 0, none⟩ = some (.slice a n cap) := by simp [World.cell?, x0]
  have HB0 := Lib.hid b0
  have HX := Lib.hid x0
  have HLT := Lib.hid hlt
  have HAW := Lib.hid hAw
  clear hF hT b0 x0 hlt hAw hw
  rw [decide_eq_false hr] at hGr
  have hwr := restTL_le sts 262144
  have hw : wTL sts ≤ 262144 := by omega
  have hsz := Nat.le_trans (szP_le sts) hw
  have hBo2 := hBo hw
  clear hr hwr hw hBo
  simp only [hg] at hBo2 hSi
  try simp only [if_true] at hBo2 hSi
  obtain ⟨s, hss⟩ : ∃ s, szP sts = s := ⟨_, rfl⟩
  rw [hss] at hsz
  simp only [hss] at hBo2 hSi
  have HSI := Lib.hid hSi
  clear hg hss hSi
  simp only [if_neg (fun h : 0 ≤ depth ∧ depth ≤ 100000 => h0 h.1)] at hBo2
  have HBO := Lib.hid hBo2
  have h2 : decide (depth < 0) = true := decide_eq_true (Int.not_le.1 h0)
  clear h0 hBo2 hsz
  go_enter Tryd.func3, Tryd.ntmps3
  go_upto_region 1 with fail
  try rw [hW1]
  clear hW1
  go_wp2_with fail
  refine hGr.mono ?_
  rintro e w2 ⟨rfl, b2⟩
  have HB2 := Lib.hid b2
  have hA := HAW.out w2 b2
  clear hGr b2 k0
  go_wp2_with fail
  refine hA.mono ?_
  rintro e w3 ⟨rfl, b3⟩
  have HB3 := Lib.hid (HB2.out.trans (b3.mono HB2.out.size))
  clear hA b3
  have hx := (HB3.out.block _ HLT.out).trans HX.out
  have k3 : w3.cell? ⟨w.heap.size, 0, none⟩ = some (.slice a n cap) := by simp [World.cell?, hx]
  clear hx
  have hB := HBO.out w3 HB3.out
  go_wp2_with fail
  refine hB.mono ?_
  rintro e w4 ⟨rfl, b4⟩
  have HB4 := Lib.hid (HB3.out.trans (b4.mono HB3.out.size))
  clear hB b4 k3
  have hx := (HB4.out.block _ HLT.out).trans HX.out
  have k4 : w4.cell? ⟨w.heap.size, 0, none⟩ = some (.slice a n cap) := by simp [World.cell?, hx]
  clear hx
  have hS := HSI.out w4 HB4.out
  go_wp2_with fail
  refine hS.mono ?_
  rintro e w5 ⟨rfl, b5⟩
  have HB5 := Lib.hid (HB4.out.trans (b5.mono HB4.out.size))
  clear hS b5 k4
  go_wp2_with fail
  go_ret
  exact ⟨by first | rfl | simp, HB0.out.trans (HB5.out.mono HB0.out.size)⟩
theorem gaugeBound_walk (sts : List St) (a : Option Addr) (n cap : Nat) (depth : Int) (w : World) (hF : FitTS w sts a n cap) (hw : wTL sts ≤ 1048576) (hT : Laid w) :
    Calls Tryd.prog 3 #[.agg #[.slice a n cap], .int .i64 depth] w fun e w' => e = .returned (.bool true) ∧ Below w.heap.size w w' := by
  by_cases hr : restTL sts 262144 < 0
  · exact gaugeBound_great sts a n cap depth w hF hw hT hr
  · cases hg : okP sts
    · exact gaugeBound_bad sts a n cap depth w hF hw hT hr hg
    · by_cases h0 : 0 ≤ depth
      · by_cases h1 : depth ≤ 100000
        · exact gaugeBound_mid sts a n cap depth w hF hw hT hr hg h0 h1
        · exact gaugeBound_high sts a n cap depth w hF hw hT hr hg h0 h1
      · exact gaugeBound_low sts a n cap depth w hF hw hT hr hg h0
end Go.Proofs.YtghepjbfhjkinaaDoor
