/- gimletlaw14.KleeneChecks answers true of any formula. Printed by wip/mkkchecks.py. -/
import Derived.Test.YtankeghmfeaooaaKHelp
import Derived.Test.YtankeghmfeaooaaKRefVars
import Derived.Test.YtankeghmfeaooaaKTwin
import Derived.Test.YtankeghmfeaooaaKIs
import Derived.Test.YtankeghmfeaooaaKFixed
import Derived.BigQuiet
namespace Go.Proofs.Ytankeghmfeaooaa
open Go.RowKit Gim
set_option maxRecDepth 100000 in
set_option maxHeartbeats 8000000 in
theorem kchecks (op v x : Int) (gs : List Fm) (a : Option Addr) (n cap : Nat) (w : World) (hF : FitS w gs a n cap) :
    Calls Try.prog 3 #[.agg #[.int .i64 op, .int .i64 v, .int .i64 x, .slice a n cap]] w fun e w' => e = .returned (.bool true) ∧ Below w.heap.size w w' := by
  have hb0 : Below w.heap.size w (w.alloc (.cells #[.int .i64 op, .int .i64 v, .int .i64 x, .slice a n cap] 26)) := ((Grows.refl _).alloc _).below
  have hbx := heap_alloc_new w (.cells #[.int .i64 op, .int .i64 v, .int .i64 x, .slice a n cap] 26)
  have hF1 := hF.below hb0
  obtain ⟨W1, hW1⟩ : ∃ W1, w.alloc (.cells #[.int .i64 op, .int .i64 v, .int .i64 x, .slice a n cap] 26) = W1 := ⟨_, rfl⟩
  rw [hW1] at hb0 hbx hF1
  have hsz1 : w.heap.size < W1.heap.size := (Array.getElem?_eq_some_iff.1 hbx).1
  have hGr := great_calls op v x gs a n cap W1 hF1
  have HB0 := Lib.hid hb0
  have HF1 := Lib.hid hF1
  by_cases hr : restF (.mk op v x gs) 65536 < 0
  · rw [decide_eq_true hr] at hGr
    clear hr hF hb0 hF1
    go_enter Try.func3, Try.ntmps3
    go_upto_region 1 with fail
    try rw [hW1]
    clear hW1
    obtain ⟨B, hB⟩ : ∃ B, w.heap.size = B := ⟨_, rfl⟩
    rw [hB] at hbx hsz1 ⊢
    have HBX := Lib.hid hbx
    have HBE := Lib.hid hB
    have HBN := Lib.hid hsz1
    clear hbx hB hsz1
    have hxc : W1.heap[B]? = _ := HBX.out
    have c0 : W1.cell? ⟨B, 0, none⟩ = some (.int .i64 op) := by simp [World.cell?, hxc]
    have c1 : W1.cell? ⟨B, 1, none⟩ = some (.int .i64 v) := by simp [World.cell?, hxc]
    have c2 : W1.cell? ⟨B, 2, none⟩ = some (.int .i64 x) := by simp [World.cell?, hxc]
    have c3 : W1.cell? ⟨B, 3, none⟩ = some (.slice a n cap) := by simp [World.cell?, hxc]
    clear hxc
    go_wp2_with fail
    refine hGr.mono ?_
    rintro e w2 ⟨rfl, g2⟩
    have hFx := fixed_calls w2
    have HB2 := Lib.hid (HB0.out.trans (g2.below.mono (Nat.le_of_lt (HBE.out.symm ▸ HBN.out))))
    clear hGr g2 c0 c1 c2 c3
    go_wp2_with fail
    refine hFx.mono ?_
    rintro e w3 ⟨rfl, b3⟩
    have HB3 := Lib.hid (HB2.out.trans (b3.mono HB2.out.size))
    clear hFx b3
    go_wp2_with fail
    go_ret
    exact ⟨rfl, HB3.out⟩
  · rw [decide_eq_false hr] at hGr
    have hsm := sz_small hr
    have hTw := fun W (h : Below W1.heap.size W1 W) => twin_calls _ op v x gs a n cap W (Nat.le_refl _) (hF1.below h) (by omega)
    have hCk := fun W a' cap' (h : FitS W gs a' n cap') => check_calls _ op v x gs a' n cap' W (Nat.le_refl _) h
    have hVr := fun W a' cap' (h : FitS W gs a' n cap') => kVars_calls op v x gs a' n cap' W h (by omega)
    have hSz := fun W a' cap' (h : FitS W gs a' n cap') => kSize_calls op v x gs a' n cap' W h (by omega)
    have hIs := fun W (h : Below W1.heap.size W1 W) => is_calls _ op v x gs a n cap W (Nat.le_refl _) (hF1.below h)
    have hRS := fun W (h : Below W1.heap.size W1 W) => refSize_calls _ op v x gs a n cap W (Nat.le_refl _) (hF1.below h) (by omega)
    clear hr hF hb0 hF1
    cases hI : isB (.mk op v x gs)
    · have he : chkE (.mk op v x gs) = 6 := by rw [chkE_of hI]; rfl
      rw [hI] at hVr hSz hIs
      simp only [he] at hCk hVr hSz
      simp only [Bool.false_eq_true, if_false] at hVr hSz
      clear hI he hRS hsm HF1
      have HTw := Lib.hid hTw
      have HCk := Lib.hid hCk
      have HVr := Lib.hid hVr
      have HSz := Lib.hid hSz
      have HIs := Lib.hid hIs
      clear hTw hCk hVr hSz hIs
      go_enter Try.func3, Try.ntmps3
      go_upto_region 1 with fail
      try rw [hW1]
      clear hW1
      obtain ⟨B, hB⟩ : ∃ B, w.heap.size = B := ⟨_, rfl⟩
      rw [hB] at hbx hsz1 ⊢
      have HBX := Lib.hid hbx
      have HBE := Lib.hid hB
      have HBN := Lib.hid hsz1
      clear hbx hB hsz1
      have hxc : W1.heap[B]? = _ := HBX.out
      have c0 : W1.cell? ⟨B, 0, none⟩ = some (.int .i64 op) := by simp [World.cell?, hxc]
      have c1 : W1.cell? ⟨B, 1, none⟩ = some (.int .i64 v) := by simp [World.cell?, hxc]
      have c2 : W1.cell? ⟨B, 2, none⟩ = some (.int .i64 x) := by simp [World.cell?, hxc]
      have c3 : W1.cell? ⟨B, 3, none⟩ = some (.slice a n cap) := by simp [World.cell?, hxc]
      clear hxc
      go_wp2_with fail
      refine hGr.mono ?_
      rintro e w2 ⟨rfl, g2⟩
      have HB2 := Lib.hid g2.below
      clear hGr g2 c0 c1 c2 c3
      have hxc : w2.heap[B]? = _ := (HB2.out.block _ HBN.out).trans HBX.out
      have c0 : w2.cell? ⟨B, 0, none⟩ = some (.int .i64 op) := by simp [World.cell?, hxc]
      have c1 : w2.cell? ⟨B, 1, none⟩ = some (.int .i64 v) := by simp [World.cell?, hxc]
      have c2 : w2.cell? ⟨B, 2, none⟩ = some (.int .i64 x) := by simp [World.cell?, hxc]
      have c3 : w2.cell? ⟨B, 3, none⟩ = some (.slice a n cap) := by simp [World.cell?, hxc]
      have hT := HTw.out w2 HB2.out
      clear hxc
      go_wp2_with fail
      refine hT.mono ?_
      rintro e w3 ⟨a3, p3, rfl, f3, b3⟩
      have HB3 := Lib.hid (HB2.out.trans (b3.mono HB2.out.size))
      have hC := HCk.out w3 a3 p3 f3.here
      clear hT f3 b3 c0 c1 c2 c3
      go_wp2_with fail
      refine hC.mono ?_
      rintro e w4 ⟨rfl, g4⟩
      have HB4 := Lib.hid (HB3.out.trans (g4.below.mono HB3.out.size))
      clear hC g4
      have hxc : w4.heap[B]? = _ := (HB4.out.block _ HBN.out).trans HBX.out
      have c0 : w4.cell? ⟨B, 0, none⟩ = some (.int .i64 op) := by simp [World.cell?, hxc]
      have c1 : w4.cell? ⟨B, 1, none⟩ = some (.int .i64 v) := by simp [World.cell?, hxc]
      have c2 : w4.cell? ⟨B, 2, none⟩ = some (.int .i64 x) := by simp [World.cell?, hxc]
      have c3 : w4.cell? ⟨B, 3, none⟩ = some (.slice a n cap) := by simp [World.cell?, hxc]
      have hT := HTw.out w4 HB4.out
      clear hxc
      go_wp2_with fail
      refine hT.mono ?_
      rintro e w5 ⟨a5, p5, rfl, f5, b5⟩
      have HB5 := Lib.hid (HB4.out.trans (b5.mono HB4.out.size))
      have hC := HVr.out w5 a5 p5 f5.here
      clear hT f5 b5 c0 c1 c2 c3
      go_wp2_with fail
      refine hC.mono ?_
      rintro e w6 ⟨ao, cp, L, rfl, rd6, hL, b6⟩
      subst hL
      have HB6 := Lib.hid (HB5.out.trans (b6.mono HB5.out.size))
      have HL6 := Lib.hid rd6
      clear hC b6 rd6
      have hxc : w6.heap[B]? = _ := (HB6.out.block _ HBN.out).trans HBX.out
      have c0 : w6.cell? ⟨B, 0, none⟩ = some (.int .i64 op) := by simp [World.cell?, hxc]
      have c1 : w6.cell? ⟨B, 1, none⟩ = some (.int .i64 v) := by simp [World.cell?, hxc]
      have c2 : w6.cell? ⟨B, 2, none⟩ = some (.int .i64 x) := by simp [World.cell?, hxc]
      have c3 : w6.cell? ⟨B, 3, none⟩ = some (.slice a n cap) := by simp [World.cell?, hxc]
      have hT := HTw.out w6 HB6.out
      clear hxc
      go_wp2_with fail
      refine hT.mono ?_
      rintro e w7 ⟨a7, p7, rfl, f7, b7⟩
      have HB7 := Lib.hid (HB6.out.trans (b7.mono HB6.out.size))
      have HL7 := Lib.hid (HL6.out.below b7)
      have hC := HSz.out w7 a7 p7 f7.here
      clear hT f7 b7 c0 c1 c2 c3
      go_wp2_with fail
      refine hC.mono ?_
      rintro e w8 ⟨rfl, g8⟩
      have HB8 := Lib.hid (HB7.out.trans (g8.below.mono HB7.out.size))
      have HL8 := Lib.hid (HL7.out.below g8.below)
      clear hC g8
      have hFx := fixed_calls w8
      go_wp2_with fail
      refine hFx.mono ?_
      rintro e w9 ⟨rfl, b9⟩
      have HB9 := Lib.hid (HB8.out.trans (b9.mono HB8.out.size))
      have HL9 := Lib.hid (HL8.out.below b9)
      clear hFx b9
      have hxc : w9.heap[B]? = _ := (HB9.out.block _ HBN.out).trans HBX.out
      have c0 : w9.cell? ⟨B, 0, none⟩ = some (.int .i64 op) := by simp [World.cell?, hxc]
      have c1 : w9.cell? ⟨B, 1, none⟩ = some (.int .i64 v) := by simp [World.cell?, hxc]
      have c2 : w9.cell? ⟨B, 2, none⟩ = some (.int .i64 x) := by simp [World.cell?, hxc]
      have c3 : w9.cell? ⟨B, 3, none⟩ = some (.slice a n cap) := by simp [World.cell?, hxc]
      have hC := HIs.out w9 HB9.out
      clear hxc
      go_wp2_with fail
      refine hC.mono ?_
      rintro e w10 ⟨rfl, g10⟩
      have HB10 := Lib.hid (HB9.out.trans (g10.below.mono HB9.out.size))
      have HL10 := Lib.hid (HL9.out.below g10.below)
      clear hC g10 c0 c1 c2 c3
      go_wp2_with fail
      go_ret
      exact ⟨rfl, HB0.out.trans (HB10.out.mono (Nat.le_of_lt (HBE.out.symm ▸ HBN.out)))⟩
    · have hRV := fun W (h : Below W1.heap.size W1 W) => refVars_calls op v x gs a n cap W (HF1.out.below h) hI
      have he : chkE (.mk op v x gs) = 0 := by rw [chkE_of hI]; rfl
      rw [hI] at hVr hSz hIs
      simp only [he] at hCk hVr hSz
      simp only [if_true] at hVr hSz
      obtain ⟨s, hs⟩ : ∃ s, szF (.mk op v x gs) = s := ⟨_, rfl⟩
      rw [hs] at hSz hRS hsm
      obtain ⟨R, hR⟩ : ∃ R, refVars (.mk op v x gs) = R := ⟨_, rfl⟩
      rw [hR] at hVr hRV
      have HRV := Lib.hid hRV
      have HRS := Lib.hid hRS
      have HSM := Lib.hid hsm
      clear hI he hs hR hRV hRS hsm HF1
      have HTw := Lib.hid hTw
      have HCk := Lib.hid hCk
      have HVr := Lib.hid hVr
      have HSz := Lib.hid hSz
      have HIs := Lib.hid hIs
      clear hTw hCk hVr hSz hIs
      go_enter Try.func3, Try.ntmps3
      go_upto_region 1 with fail
      try rw [hW1]
      clear hW1
      obtain ⟨B, hB⟩ : ∃ B, w.heap.size = B := ⟨_, rfl⟩
      rw [hB] at hbx hsz1 ⊢
      have HBX := Lib.hid hbx
      have HBE := Lib.hid hB
      have HBN := Lib.hid hsz1
      clear hbx hB hsz1
      have hxc : W1.heap[B]? = _ := HBX.out
      have c0 : W1.cell? ⟨B, 0, none⟩ = some (.int .i64 op) := by simp [World.cell?, hxc]
      have c1 : W1.cell? ⟨B, 1, none⟩ = some (.int .i64 v) := by simp [World.cell?, hxc]
      have c2 : W1.cell? ⟨B, 2, none⟩ = some (.int .i64 x) := by simp [World.cell?, hxc]
      have c3 : W1.cell? ⟨B, 3, none⟩ = some (.slice a n cap) := by simp [World.cell?, hxc]
      clear hxc
      go_wp2_with fail
      refine hGr.mono ?_
      rintro e w2 ⟨rfl, g2⟩
      have HB2 := Lib.hid g2.below
      clear hGr g2 c0 c1 c2 c3
      have hxc : w2.heap[B]? = _ := (HB2.out.block _ HBN.out).trans HBX.out
      have c0 : w2.cell? ⟨B, 0, none⟩ = some (.int .i64 op) := by simp [World.cell?, hxc]
      have c1 : w2.cell? ⟨B, 1, none⟩ = some (.int .i64 v) := by simp [World.cell?, hxc]
      have c2 : w2.cell? ⟨B, 2, none⟩ = some (.int .i64 x) := by simp [World.cell?, hxc]
      have c3 : w2.cell? ⟨B, 3, none⟩ = some (.slice a n cap) := by simp [World.cell?, hxc]
      have hT := HTw.out w2 HB2.out
      clear hxc
      go_wp2_with fail
      refine hT.mono ?_
      rintro e w3 ⟨a3, p3, rfl, f3, b3⟩
      have HB3 := Lib.hid (HB2.out.trans (b3.mono HB2.out.size))
      have hC := HCk.out w3 a3 p3 f3.here
      clear hT f3 b3 c0 c1 c2 c3
      go_wp2_with fail
      refine hC.mono ?_
      rintro e w4 ⟨rfl, g4⟩
      have HB4 := Lib.hid (HB3.out.trans (g4.below.mono HB3.out.size))
      clear hC g4
      have hxc : w4.heap[B]? = _ := (HB4.out.block _ HBN.out).trans HBX.out
      have c0 : w4.cell? ⟨B, 0, none⟩ = some (.int .i64 op) := by simp [World.cell?, hxc]
      have c1 : w4.cell? ⟨B, 1, none⟩ = some (.int .i64 v) := by simp [World.cell?, hxc]
      have c2 : w4.cell? ⟨B, 2, none⟩ = some (.int .i64 x) := by simp [World.cell?, hxc]
      have c3 : w4.cell? ⟨B, 3, none⟩ = some (.slice a n cap) := by simp [World.cell?, hxc]
      have hT := HTw.out w4 HB4.out
      clear hxc
      go_wp2_with fail
      refine hT.mono ?_
      rintro e w5 ⟨a5, p5, rfl, f5, b5⟩
      have HB5 := Lib.hid (HB4.out.trans (b5.mono HB4.out.size))
      have hC := HVr.out w5 a5 p5 f5.here
      clear hT f5 b5 c0 c1 c2 c3
      go_wp2_with fail
      refine hC.mono ?_
      rintro e w6 ⟨ao, cp, L, rfl, rd6, hL, b6⟩
      subst hL
      have HB6 := Lib.hid (HB5.out.trans (b6.mono HB5.out.size))
      have HL6 := Lib.hid rd6
      clear hC b6 rd6
      have hxc : w6.heap[B]? = _ := (HB6.out.block _ HBN.out).trans HBX.out
      have c0 : w6.cell? ⟨B, 0, none⟩ = some (.int .i64 op) := by simp [World.cell?, hxc]
      have c1 : w6.cell? ⟨B, 1, none⟩ = some (.int .i64 v) := by simp [World.cell?, hxc]
      have c2 : w6.cell? ⟨B, 2, none⟩ = some (.int .i64 x) := by simp [World.cell?, hxc]
      have c3 : w6.cell? ⟨B, 3, none⟩ = some (.slice a n cap) := by simp [World.cell?, hxc]
      have hT := HTw.out w6 HB6.out
      clear hxc
      go_wp2_with fail
      refine hT.mono ?_
      rintro e w7 ⟨a7, p7, rfl, f7, b7⟩
      have HB7 := Lib.hid (HB6.out.trans (b7.mono HB6.out.size))
      have HL7 := Lib.hid (HL6.out.below b7)
      have hC := HSz.out w7 a7 p7 f7.here
      clear hT f7 b7 c0 c1 c2 c3
      go_wp2_with fail
      refine hC.mono ?_
      rintro e w8 ⟨rfl, g8⟩
      have HB8 := Lib.hid (HB7.out.trans (g8.below.mono HB7.out.size))
      have HL8 := Lib.hid (HL7.out.below g8.below)
      clear hC g8
      have hFx := fixed_calls w8
      go_wp2_with fail
      refine hFx.mono ?_
      rintro e w9 ⟨rfl, b9⟩
      have HB9 := Lib.hid (HB8.out.trans (b9.mono HB8.out.size))
      have HL9 := Lib.hid (HL8.out.below b9)
      clear hFx b9
      have hxc : w9.heap[B]? = _ := (HB9.out.block _ HBN.out).trans HBX.out
      have c0 : w9.cell? ⟨B, 0, none⟩ = some (.int .i64 op) := by simp [World.cell?, hxc]
      have c1 : w9.cell? ⟨B, 1, none⟩ = some (.int .i64 v) := by simp [World.cell?, hxc]
      have c2 : w9.cell? ⟨B, 2, none⟩ = some (.int .i64 x) := by simp [World.cell?, hxc]
      have c3 : w9.cell? ⟨B, 3, none⟩ = some (.slice a n cap) := by simp [World.cell?, hxc]
      have hC := HIs.out w9 HB9.out
      clear hxc
      go_wp2_with fail
      refine hC.mono ?_
      rintro e w10 ⟨rfl, g10⟩
      have HB10 := Lib.hid (HB9.out.trans (g10.below.mono HB9.out.size))
      have HL10 := Lib.hid (HL9.out.below g10.below)
      clear hC g10 c0 c1 c2 c3
      have hxc : w10.heap[B]? = _ := (HB10.out.block _ HBN.out).trans HBX.out
      have c0 : w10.cell? ⟨B, 0, none⟩ = some (.int .i64 op) := by simp [World.cell?, hxc]
      have c1 : w10.cell? ⟨B, 1, none⟩ = some (.int .i64 v) := by simp [World.cell?, hxc]
      have c2 : w10.cell? ⟨B, 2, none⟩ = some (.int .i64 x) := by simp [World.cell?, hxc]
      have c3 : w10.cell? ⟨B, 3, none⟩ = some (.slice a n cap) := by simp [World.cell?, hxc]
      have hC := HRV.out w10 HB10.out
      clear hxc
      go_wp2_with fail
      refine hC.mono ?_
      rintro e w11 ⟨ao2, cp2, L2, rfl, rd11, hL2, b11⟩
      subst hL2
      have HB11 := Lib.hid (HB10.out.trans (b11.mono HB10.out.size))
      have HL11 := Lib.hid (HL10.out.below b11)
      have HM11 := Lib.hid rd11
      clear hC b11 rd11 c0 c1 c2 c3
      have hxc : w11.heap[B]? = _ := (HB11.out.block _ HBN.out).trans HBX.out
      have c0 : w11.cell? ⟨B, 0, none⟩ = some (.int .i64 op) := by simp [World.cell?, hxc]
      have c1 : w11.cell? ⟨B, 1, none⟩ = some (.int .i64 v) := by simp [World.cell?, hxc]
      have c2 : w11.cell? ⟨B, 2, none⟩ = some (.int .i64 x) := by simp [World.cell?, hxc]
      have c3 : w11.cell? ⟨B, 3, none⟩ = some (.slice a n cap) := by simp [World.cell?, hxc]
      have hC := HRS.out w11 HB11.out
      clear hxc
      obtain ⟨m, hm⟩ : ∃ m, L2.length = m := ⟨_, rfl⟩
      rw [hm] at HM11 HL11 ⊢
      have hmb : m ≤ 9223372036854775807 := by have := HM11.out.le; have := HM11.out.cap_le; unfold maxLen at this; omega
      clear hm
      go_wp2_with fail
      refine hC.mono ?_
      rintro e w12 ⟨rfl, g12⟩
      have HB12 := Lib.hid (HB11.out.trans (g12.below.mono HB11.out.size))
      have HL12 := Lib.hid (HL11.out.below g12.below)
      have HM12 := Lib.hid (HM11.out.below g12.below)
      clear hC g12 c0 c1 c2 c3
      go_wp2_with fail
      go_loopw [73] (fun i wr => ∃ q : Nat, i = .int .i64 q ∧ q ≤ m ∧ Drew w12 wr) (fun i _ => m - (RowKit.intOf i).toNat)
      case atStart => exact ⟨0, rfl, Nat.zero_le _, Drew.refl _⟩
      case round =>
        obtain ⟨q, rfl, hq, hd⟩ := hrel
        by_cases hqm : q < m
        · have hqm' : (q : Int) < m := by omega
          obtain ⟨b, o, rfl, hb1, hc⟩ := (HL12.out.below (hd.below _)).cell q hqm
          obtain ⟨b2, o2, rfl, hb2, hc2⟩ := (HM12.out.below (hd.below _)).cell q hqm
          have k1 := hc q hqm
          have k2 := hc2 q hqm
          obtain ⟨t, ht⟩ : ∃ t, gt L2 q = t := ⟨_, rfl⟩
          rw [ht] at k1 k2
          clear ht hc hc2
          go_wp2
          go_quiet (fail)
          go_wp2
          go_roundw
          case rel => exact ⟨q + 1, by go_num, by omega, hd.drewN _⟩
          case measure => simp [RowKit.intOf]; omega
        · obtain rfl : q = m := by omega
          go_wp2_with fail
          go_ret
          exact ⟨rfl, HB0.out.trans ((HB12.out.trans ((hd.below _).mono HB12.out.size)).mono (Nat.le_of_lt (HBE.out.symm ▸ HBN.out)))⟩
end Go.Proofs.Ytankeghmfeaooaa
