/- The net of /a[b]; what is known of its predicate. -/
import Derived.Test.YtkhejkfjhddobaaGreatDoorHoTookM
section
namespace Go.Proofs.YtkhejkfjhddobaaGreatDoor
open Go.RowKit Gim
def bA : ByteArray := ⟨#[97]⟩
def bB : ByteArray := ⟨#[98]⟩
def xW : Ex := .mk 3 [] [.mk 0 0 bB []] ⟨#[]⟩ 0 ⟨#[]⟩ 0
def tsW : List Gim.St := [.mk 0 0 bA [xW]]
def ndW : NetD := ⟨1, [⟨0, 0, bA, [0]⟩, ⟨0, 0, bB, []⟩], [⟨3, [], 1, 1, ⟨#[]⟩, 0, ⟨#[]⟩, 0⟩]⟩
theorem compW : comp tsW = ndW := by kernel_rfl
theorem readW : (netRead ndW).1 = tsW := by kernel_rfl
theorem badW : (netRead ndW).2.bad = false := by kernel_rfl
theorem okW : okP tsW = true := by kernel_rfl
theorem pathW : netPath ndW = some tsW := netPath_yes badW readW okW compW.symm
theorem nameA : nameB bA = true := by kernel_rfl
theorem nameBb : nameB bB = true := by kernel_rfl
theorem known1 : truthF ndW [openF ndW 0 ByteArray.empty [], openF ndW 1 bA []] false 1 0 = 1 := by kernel_rfl
theorem known2 : truthF ndW [openF ndW 0 ByteArray.empty [], openF ndW 1 bA [], openF ndW 1 bB []] false 1 0 = 2 := by kernel_rfl
theorem limW : NLim ndW := by
  refine ⟨by decide, fun k => ?_, fun k => ?_, fun k => ?_, by simp [ndW, InR], ⟨by decide, fun k => ?_, fun k => ?_⟩⟩
  · rcases k with _ | k <;> simp [ndW, zp]
  · rcases k with _ | _ | k <;> simp [ndW, zr]
  · rcases k with _ | k <;> simp [ndW, zp, InR]
  · rcases k with _ | k <;> simp [ndW, zp] <;> decide
  · rcases k with _ | _ | k <;> simp [ndW, zr, bA, bB] <;> decide
end Go.Proofs.YtkhejkfjhddobaaGreatDoor

end

section
namespace Go.Proofs.YtkhejkfjhddobaaGreatDoor
open Go.RowKit Gim
/-- the path /a[b] in memory -/
theorem fitW {W : World} {b : Nat} (h0 : W.heap[b]? = some (.cells #[.int .i64 0, .int .i64 0, .string bB, .slice none 0 0] 64))
    (h2 : W.heap[b + 2]? = some (.cells #[.int .i64 3, .slice none 0 0, .slice (some ⟨b, 0, none⟩) 1 1, .string ⟨#[]⟩, .int .i64 0, .string ⟨#[]⟩, .int .i64 0] 66))
    (h3 : W.heap[b + 3]? = some (.cells #[.int .i64 0, .int .i64 0, .string bA, .slice (some ⟨b + 2, 0, none⟩) 1 1] 64)) : FitTS W tsW (some ⟨b + 3, 0, none⟩) 1 1 := by
  have l0 := (Array.getElem?_eq_some_iff.1 h0).1
  have l2 := (Array.getElem?_eq_some_iff.1 h2).1
  have l3 := (Array.getElem?_eq_some_iff.1 h3).1
  have m1 : 1 ≤ maxLen := by unfold maxLen; omega
  refine ⟨rfl, Nat.le_refl _, m1, fun j _ => ⟨b + 3, 0, rfl, ?_⟩⟩
  unfold tsW FitTL FitT
  refine ⟨⟨l3, by simp [World.cell?, h3], by simp [World.cell?, h3], by simp [World.cell?, h3], some ⟨b + 2, 0, none⟩, 1, 1, by simp [World.cell?, h3], rfl, Nat.le_refl _, m1, fun j _ => ⟨b + 2, 0, rfl, ?_⟩⟩, by unfold FitTL; trivial⟩
  unfold FitXL xW FitX
  refine ⟨⟨l2, by simp [World.cell?, h2], by simp [World.cell?, h2], by simp [World.cell?, h2], by simp [World.cell?, h2], by simp [World.cell?, h2], ⟨none, 0, 0, by simp [World.cell?, h2], rfl, Nat.le_refl _, Nat.zero_le _, fun j hj => absurd hj (Nat.not_lt_zero _)⟩, some ⟨b, 0, none⟩, 1, 1, by simp [World.cell?, h2], rfl, Nat.le_refl _, m1, fun j _ => ⟨b, 0, rfl, ?_⟩⟩, by unfold FitXL; trivial⟩
  unfold FitTL FitT
  exact ⟨⟨l0, by simp [World.cell?, h0], by simp [World.cell?, h0], by simp [World.cell?, h0], none, 0, 0, by simp [World.cell?, h0], rfl, Nat.le_refl _, Nat.zero_le _, fun j hj => absurd hj (Nat.not_lt_zero _)⟩, by unfold FitTL; trivial⟩
set_option maxRecDepth 100000 in
set_option maxHeartbeats 16000000 in
theorem awake_calls (w : World) (hT : Laid w) : Calls Tryz.prog 7 #[] w fun e w' => e = .returned (.bool true) ∧ Below w.heap.size w w' := by
  have hal : ∀ o0 o1 o2 o3 : Obj, ((((w.alloc o0).alloc o1).alloc o2).alloc o3).heap[w.heap.size]? = some o0 ∧ ((((w.alloc o0).alloc o1).alloc o2).alloc o3).heap[w.heap.size + 2]? = some o2 ∧ ((((w.alloc o0).alloc o1).alloc o2).alloc o3).heap[w.heap.size + 3]? = some o3 ∧ Below w.heap.size w ((((w.alloc o0).alloc o1).alloc o2).alloc o3) := fun o0 o1 o2 o3 => by
    obtain ⟨x1, x2, x3, x4⟩ := alloc2 w o0 o1
    obtain ⟨y1, y2, y3, y4⟩ := alloc2 ((w.alloc o0).alloc o1) o2 o3
    rw [x3] at y1 y2 y4
    exact ⟨(y4.block _ (by omega)).trans x1, y1, y2, x4.trans (y4.mono (by omega))⟩
  have HAL := Lib.hid hal
  have HT := Lib.hid hT
  clear hT hal
  go_enter Tryz.func7, Tryz.ntmps7
  go_wp2_with fail
  obtain ⟨h0, h2, h3, hb4⟩ := HAL.out (.cells #[.int .i64 0, .int .i64 0, .string bB, .slice none 0 0] 64) (.cells #[.int .i64 3, .slice none 0 0, .slice (some ⟨w.heap.size, 0, none⟩) 1 1, .string ⟨#[]⟩, .int .i64 0, .string ⟨#[]⟩, .int .i64 0] 66) (.cells #[.int .i64 3, .slice none 0 0, .slice (some ⟨w.heap.size, 0, none⟩) 1 1, .string ⟨#[]⟩, .int .i64 0, .string ⟨#[]⟩, .int .i64 0] 66) (.cells #[.int .i64 0, .int .i64 0, .string bA, .slice (some ⟨w.heap.size + 2, 0, none⟩) 1 1] 64)
  have hC := comp_calls tsW (some ⟨w.heap.size + 3, 0, none⟩) 1 1 _ (fitW h0 h2 h3) (HT.out.below hb4) (by decide +kernel) (by decide +kernel)
  have HB4 := Lib.hid hb4
  clear HAL h0 h2 h3 hb4
  refine hC.mono ?_
  rintro e w5 ⟨hb5, h⟩
  rw [if_pos okW, compW] at h
  obtain ⟨va, vb, rfl, hNA⟩ := h
  obtain ⟨r5, rc5, p5, pc5, rfl, rfl, hf1, hf2⟩ := hNA w5 (fun _ _ _ => rfl)
  rw [show ((tsW.length : Nat) : Int) = 1 from rfl, show ndW.rows.length = 2 from rfl, show ndW.preds.length = 1 from rfl]
  have HB5 := Lib.hid (HB4.out.trans (hb5.mono HB4.out.size))
  obtain ⟨W6, hW6⟩ : ∃ W6, w5.alloc (.cells #[.int .i64 1, .slice r5 2 rc5, .slice p5 1 pc5] 36) = W6 := ⟨_, rfl⟩
  have hb6 : Below w5.heap.size w5 W6 := by rw [← hW6]; exact (Below.refl _ _).alloc (Nat.le_refl _) _
  have hX6 : W6.heap[w5.heap.size]? = some (.cells #[.int .i64 1, .slice r5 2 rc5, .slice p5 1 pc5] 36) := by rw [← hW6]; exact heap_alloc_new _ _
  have hN := new_h_calls ndW r5 rc5 p5 pc5 W6 (hf1.below hb6) (hf2.below hb6) ((HT.out.below HB5.out).below (hb6)) limW
  have y0 : W6.cell? ⟨w5.heap.size, 0, none⟩ = some (.int .i64 1) := by simp [World.cell?, hX6]
  have y1 : W6.cell? ⟨w5.heap.size, 1, none⟩ = some (.slice r5 2 rc5) := by simp [World.cell?, hX6]
  have y2 : W6.cell? ⟨w5.heap.size, 2, none⟩ = some (.slice p5 1 pc5) := by simp [World.cell?, hX6]
  have HB6 := Lib.hid (HB5.out.trans (hb6.mono HB5.out.size))
  have HN := Lib.hid hN
  have HW6 := Lib.hid hW6
  have h6s : w5.heap.size < W6.heap.size := (Array.getElem?_eq_some_iff.1 hX6).1
  clear hC hb5 hNA hf1 hf2 hb6 hX6 hN hW6
  go_upto_region 3 with fail
  rw [HW6.out]
  have okN := Lib.hid (netOk_of pathW limW)
  go_wp2_with fail
  refine HN.out.mono ?_
  rintro e w7 ⟨hb7, h⟩
  rcases h with ⟨hno, rfl⟩ | ⟨_, H, K, F, G, mn, va, vb, lo, hi, tg, rfl, hM⟩
  · rw [pathW] at hno
    cases hno
  have HO0 := Lib.hid (HoI.start hM hb7)
  have HB7 := Lib.hid (HB6.out.trans (hb7.mono HB6.out.size))
  have HT1 : Hid (Calls Tryz.prog 13 #[.pointer (some ⟨H, 0, none⟩), .agg #[.int .i64 0, .int .i64 0, .int .i64 1, .string ⟨#[97]⟩, .slice none 0 0, .string ⟨#[]⟩, .int .i64 0, .int .i64 0]] w7 _) := Lib.hid (take_h_calls bA w7 HO0.out okN.out (by decide) (HT.out.below HB7.out) (by decide) (by decide) nameA (.inr rfl) (by decide))
  clear hM hb7 HN y0 y1 y2
  go_wp2_with fail
  refine HT1.out.mono ?_
  rintro e w8 ⟨rfl, hf8, vF', vO', F2, tg2, ho1⟩
  have HO1 := Lib.hid ho1
  have hlowH : W6.heap.size ≤ H := Nat.le_of_not_lt fun hl => by
    have h1 := ho1.old.2 H hl
    rw [ho1.tH] at h1
    cases h1
  have HB8 := Lib.hid (HB7.out.trans ((hf8.below (B := W6.heap.size) HO0.out.old.1 fun j hj => hj).mono HB6.out.size))
  have HQ1 : Hid (Calls Tryz.prog 18 #[.pointer (some ⟨H, 0, none⟩), .int .i64 1, .int .i64 0] w8 _) := Lib.hid (truth_h_calls w8 ho1 okN.out 1 0 (by decide) (by decide) (by decide))
  clear ho1 hf8
  go_wp2_with fail
  refine HQ1.out.mono ?_
  rintro e w9 ⟨rfl, hf9, vK9, ho2⟩
  rw [show truthF ndW ([openF ndW 0 ByteArray.empty []] ++ [openF ndW 1 bA []]) false 1 0 = 1 from known1]
  have HO2 := Lib.hid ho2
  have HB9 := Lib.hid (HB8.out.trans ((hf9.below (B := W6.heap.size) HO1.out.old.1 fun j hj => by rw [hj]; exact hlowH).mono HB6.out.size))
  have HT2 : Hid (Calls Tryz.prog 13 #[.pointer (some ⟨H, 0, none⟩), .agg #[.int .i64 0, .int .i64 1, .int .i64 2, .string ⟨#[98]⟩, .slice none 0 0, .string ⟨#[]⟩, .int .i64 0, .int .i64 0]] w9 _) := Lib.hid (take_h_calls bB w9 ho2 okN.out (by decide) (HT.out.below HB9.out) (by decide) (by decide) nameBb (.inl (by decide)) (by decide))
  clear ho2 hf9
  go_wp2_with fail
  refine HT2.out.mono ?_
  rintro e w10 ⟨rfl, hf10, vF3, vO3, F3, tg3, ho3⟩
  have HO3 := Lib.hid ho3
  have HB10 := Lib.hid (HB9.out.trans ((hf10.below (B := W6.heap.size) HO2.out.old.1 fun j hj => hj).mono HB6.out.size))
  have HQ2 : Hid (Calls Tryz.prog 18 #[.pointer (some ⟨H, 0, none⟩), .int .i64 1, .int .i64 0] w10 _) := Lib.hid (truth_h_calls w10 ho3 okN.out 1 0 (by decide) (by decide) (by decide))
  clear ho3 hf10
  go_wp2_with fail
  refine HQ2.out.mono ?_
  rintro e w11 ⟨rfl, hf11, vK11, _⟩
  rw [show truthF ndW ([openF ndW 0 ByteArray.empty []] ++ [openF ndW 1 bA []] ++ [openF ndW 1 bB []]) false 1 0 = 2 from known2]
  have HB11 := Lib.hid (HB10.out.trans ((hf11.below (B := W6.heap.size) HO3.out.old.1 fun j hj => by rw [hj]; exact hlowH).mono HB6.out.size))
  clear hf11
  go_wp2_with fail
  go_ret
  exact ⟨rfl, HB11.out⟩
end Go.Proofs.YtkhejkfjhddobaaGreatDoor

end

