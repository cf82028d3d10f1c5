/- gimletlaw18.awake walked. -/
import Derived.Test.YtkhejkfjhddobaaGreatDoorEntLawM
import Derived.Test.YtkhejkfjhddobaaGreatDoorHoTruth2M
set_option maxHeartbeats 16000000
namespace Go.Proofs.YtkhejkfjhddobaaGreatDoor
open Go.RowKit Gim
def bAk : ByteArray := ⟨#[97]⟩
def bBk : ByteArray := ⟨#[98]⟩
def xWk : Ex := .mk 3 [] [.mk 0 0 bBk []] ⟨#[]⟩ 0 ⟨#[]⟩ 0
def tsWk : List Gim.St := [.mk 0 0 bAk [xWk]]
def ndWk : NetD := ⟨1, [⟨0, 0, bAk, [0]⟩, ⟨0, 0, bBk, []⟩], [⟨3, [], 1, 1, ⟨#[]⟩, 0, ⟨#[]⟩, 0⟩]⟩
theorem compWk : comp tsWk = ndWk := by kernel_rfl
theorem okWk : okP tsWk = true := by kernel_rfl
def evA : EvD := ⟨0, 0, 1, bAk, [], ⟨#[]⟩, 0, 0⟩
def evB : EvD := ⟨0, 1, 2, bBk, [], ⟨#[]⟩, 0, 0⟩
theorem nxtA : nxtB ck0 evA = true := by kernel_rfl
theorem nxtBb : nxtB (stp ck0 evA) evB = true := by kernel_rfl
theorem szA : EvSz evA := by constructor <;> decide
theorem szBb : EvSz evB := by constructor <;> decide
theorem ckOkA : CkOk (stp ck0 evA) := ckOk_beg [evA] ckOk_0 (by kernel_rfl)
theorem fitAt0 (w : World) : FitAt w [] none 0 0 := ⟨rfl, jr _, jz _, fun _ hj => absurd hj (Nat.not_lt_zero _)⟩
theorem known1k : ansX ndWk (takeFs ndWk (stp ck0 evA).dn [openF ndWk 0 ByteArray.empty []] evA).1 (stp ck0 evA).dn (takeFs ndWk (stp ck0 evA).dn [openF ndWk 0 ByteArray.empty []] evA).2 1 0 = (1, 0) := by kernel_rfl
theorem known2k : ansX ndWk (takeFs ndWk (stp (stp ck0 evA) evB).dn (takeFs ndWk (stp ck0 evA).dn [openF ndWk 0 ByteArray.empty []] evA).1 evB).1 (stp (stp ck0 evA) evB).dn (takeFs ndWk (stp (stp ck0 evA) evB).dn (takeFs ndWk (stp ck0 evA).dn [openF ndWk 0 ByteArray.empty []] evA).1 evB).2 1 0 = (2, 0) := by kernel_rfl
theorem fitWk {W : World} {b : Nat} (h0 : W.heap[b]? = some (.cells #[.int .i64 0, .int .i64 0, .string bBk, .slice none 0 0] 64))
  (h2 : W.heap[b + 2]? = some (.cells #[.int .i64 3, .slice none 0 0, .slice (some ⟨b, 0, none⟩) 1 1, .string ⟨#[]⟩, .int .i64 0, .string ⟨#[]⟩, .int .i64 0] 66))
  (h3 : W.heap[b + 3]? = some (.cells #[.int .i64 0, .int .i64 0, .string bAk, .slice (some ⟨b + 2, 0, none⟩) 1 1] 64)) : FitTS W tsWk (some ⟨b + 3, 0, none⟩) 1 1 := by
 have l0 := jl h0
 have l2 := jl h2
 have l3 := jl h3
 have m1 : 1 ≤ maxLen := by unfold maxLen; omega
 refine ⟨rfl, jr _, m1, fun j _ => ⟨b + 3, 0, rfl, ?_⟩⟩
 unfold tsWk FitTL FitT
 refine ⟨⟨l3, by simp [World.cell?, h3], by simp [World.cell?, h3], by simp [World.cell?, h3], some ⟨b + 2, 0, none⟩, 1, 1, by simp [World.cell?, h3], rfl, jr _, m1, fun j _ => ⟨b + 2, 0, rfl, ?_⟩⟩, by unfold FitTL; trivial⟩
 unfold FitXL xWk FitX
 refine ⟨⟨l2, by simp [World.cell?, h2], by simp [World.cell?, h2], by simp [World.cell?, h2], by simp [World.cell?, h2], by simp [World.cell?, h2], ⟨none, 0, 0, by simp [World.cell?, h2], rfl, jr _, jz _, fun j hj => absurd hj (Nat.not_lt_zero _)⟩, some ⟨b, 0, none⟩, 1, 1, by simp [World.cell?, h2], rfl, jr _, m1, fun j _ => ⟨b, 0, rfl, ?_⟩⟩, by unfold FitXL; trivial⟩
 unfold FitTL FitT
 exact ⟨⟨l0, by simp [World.cell?, h0], by simp [World.cell?, h0], by simp [World.cell?, h0], none, 0, 0, by simp [World.cell?, h0], rfl, jr _, jz _, fun j hj => absurd hj (Nat.not_lt_zero _)⟩, by unfold FitTL; trivial⟩
set_option maxRecDepth 100000 in
theorem awake_callsk (w : World) (hT : Laid w) : Calls Tryz.prog 7 #[] w fun e w' => e = .returned (.bool true) ∧ Below w.heap.size w w' := by
 have hal : ∀ o0 o1 o2 o3 : Obj, ((((w.alloc o0).alloc o1).alloc o2).alloc o3).heap[w.heap.size]? = some o0 ∧ ((((w.alloc o0).alloc o1).alloc o2).alloc o3).heap[w.heap.size + 2]? = some o2 ∧ ((((w.alloc o0).alloc o1).alloc o2).alloc o3).heap[w.heap.size + 3]? = some o3 ∧ Below w.heap.size w ((((w.alloc o0).alloc o1).alloc o2).alloc o3) := fun o0 o1 o2 o3 => by
  obtain ⟨x1, x2, x3, x4⟩ := alloc2 w o0 o1
  obtain ⟨y1, y2, y3, y4⟩ := alloc2 ((w.alloc o0).alloc o1) o2 o3
  rw [x3] at y1 y2 y4
  exact ⟨(y4.block _ (by omega)).trans x1, y1, y2, x4.trans (y4.mono (by omega))⟩
 have HAL := jh hal
 have HT := jh hT
 clear hT hal
 go_enter Tryz.func7, Tryz.ntmps7
 go_wp2_with fail
 obtain ⟨h0, h2, h3, hb4⟩ := HAL.out (.cells #[.int .i64 0, .int .i64 0, .string bBk, .slice none 0 0] 64) (.cells #[.int .i64 3, .slice none 0 0, .slice (some ⟨w.heap.size, 0, none⟩) 1 1, .string ⟨#[]⟩, .int .i64 0, .string ⟨#[]⟩, .int .i64 0] 66) (.cells #[.int .i64 3, .slice none 0 0, .slice (some ⟨w.heap.size, 0, none⟩) 1 1, .string ⟨#[]⟩, .int .i64 0, .string ⟨#[]⟩, .int .i64 0] 66) (.cells #[.int .i64 0, .int .i64 0, .string bAk, .slice (some ⟨w.heap.size + 2, 0, none⟩) 1 1] 64)
 have hC := comp_calls tsWk (some ⟨w.heap.size + 3, 0, none⟩) 1 1 _ (fitWk h0 h2 h3) (HT.out.below hb4) (by decide +kernel) (by decide +kernel)
 have HB4 := jh hb4
 clear HAL h0 h2 h3 hb4
 refine hC.mono ?_
 rintro e w5 ⟨hb5, h⟩
 rw [if_pos okWk, compWk] at h
 obtain ⟨va, vb, rfl, hNA⟩ := h
 obtain ⟨r5, rc5, p5, pc5, rfl, rfl, hf1, hf2⟩ := hNA w5 (fun _ _ _ => rfl)
 rw [show ((tsWk.length : Nat) : Int) = 1 from rfl, show ndWk.rows.length = 2 from rfl, show ndWk.preds.length = 1 from rfl]
 have HB5 := jh (HB4.out.trans (hb5.mono HB4.out.size))
 obtain ⟨W6, hW6⟩ := je (w5.alloc (.cells #[.int .i64 1, .slice r5 2 rc5, .slice p5 1 pc5] 36))
 have hb6 : Below w5.heap.size w5 W6 := by rw [← hW6]; exact (jf _ _).alloc (jr _) _
 have hX6 : W6.heap[w5.heap.size]? = some (.cells #[.int .i64 1, .slice r5 2 rc5, .slice p5 1 pc5] 36) := by rw [← hW6]; exact jw _ _
 have hN := start_hopes tsWk W6 okWk (by decide +kernel) (by decide +kernel) ((HT.out.below HB5.out).below hb6) r5 rc5 p5 pc5 (by rw [compWk]; exact hf1.below hb6) (by rw [compWk]; exact hf2.below hb6)
 rw [compWk] at hN
 have y0 := jc hX6 0 rfl; have y1 := jc hX6 1 rfl; have y2 := jc hX6 2 rfl
 have HB6 := jh (HB5.out.trans (hb6.mono HB5.out.size))
 have HN := jh hN
 have HW6 := jh hW6
 have h6s : w5.heap.size < W6.heap.size := jl hX6
 clear hC hb5 hNA hf1 hf2 hb6 hX6 hN hW6
 go_upto_region 3 with fail
 rw [HW6.out]
 go_wp2_with fail
 refine HN.out.mono ?_
 rintro e w7 ⟨hb7, okN, H, tg, rfl, hX⟩
 have HO0 := jh hX
 have HOKN := jh okN
 have HB7 := jh (HB6.out.trans (hb7.mono HB6.out.size))
 have hh0 : ∀ f ∈ [openF ndWk 0 ByteArray.empty []], HunsOk evA.tx f := (show HB 0 _ from openF_hunt0 _ _ _ _).huns (by decide)
 have HT1 : Hid (Calls Tryz.prog 13 #[.pointer (some ⟨H, 0, none⟩), .agg #[.int .i64 0, .int .i64 0, .int .i64 1, .string ⟨#[97]⟩, .slice none 0 0, .string ⟨#[]⟩, .int .i64 0, .int .i64 0]] w7 _) := jh (take_next w7 hX okN (HT.out.below HB7.out) evA nxtA szA ckOk_0 rfl (by decide) (by decide) none 0 0 (fitAt0 w7) (fun h => absurd h (Nat.lt_irrefl _)) hh0)
 clear hX okN hb7 HN y0 y1 y2 hh0
 go_wp2_with fail
 refine HT1.out.mono ?_
 rintro e w8 ⟨rfl, tg8, hx8, hg8⟩
 have HB8 := jh (HB7.out.trans ((hg8.below HO0.out.low.2 HO0.out.low.1).mono HB6.out.size))
 have HQ1 : Hid (Calls Tryz.prog 18 #[.pointer (some ⟨H, 0, none⟩), .int .i64 1, .int .i64 0] w8 _) := jh (truthX_calls w8 hx8 HOKN.out 1 0 (by decide +kernel))
 have HO8 := jh hx8
 clear hx8 hg8
 go_wp2_with fail
 refine HQ1.out.mono ?_
 rintro e w9 ⟨rfl, tg9, hx9, hg9⟩
 rw [known1k]
 have HB9 := jh (HB8.out.trans ((hg9.below HO8.out.low.2 HO8.out.low.1).mono HB6.out.size))
 have hh1 : ∀ f ∈ (takeFs ndWk (stp ck0 evA).dn [openF ndWk 0 ByteArray.empty []] evA).1, HunsOk evB.tx f := ((show HB 0 _ from openF_hunt0 _ _ _ _).next (by decide +kernel)).huns (by decide)
 have HT2 : Hid (Calls Tryz.prog 13 #[.pointer (some ⟨H, 0, none⟩), .agg #[.int .i64 0, .int .i64 1, .int .i64 2, .string ⟨#[98]⟩, .slice none 0 0, .string ⟨#[]⟩, .int .i64 0, .int .i64 0]] w9 _) := jh (take_next w9 hx9 HOKN.out (HT.out.below HB9.out) evB nxtBb szBb ckOkA (by decide +kernel) (by decide +kernel) (by decide +kernel) none 0 0 (fitAt0 w9) (fun h => absurd h (Nat.lt_irrefl _)) hh1)
 have HO9 := jh hx9
 clear hx9 hg9 hh1
 go_wp2_with fail
 refine HT2.out.mono ?_
 rintro e w10 ⟨rfl, tg10, hx10, hg10⟩
 have HB10 := jh (HB9.out.trans ((hg10.below HO9.out.low.2 HO9.out.low.1).mono HB6.out.size))
 have HQ2 : Hid (Calls Tryz.prog 18 #[.pointer (some ⟨H, 0, none⟩), .int .i64 1, .int .i64 0] w10 _) := jh (truthX_calls w10 hx10 HOKN.out 1 0 (by decide +kernel))
 have HO10 := jh hx10
 clear hx10 hg10
 go_wp2_with fail
 refine HQ2.out.mono ?_
 rintro e w11 ⟨rfl, tg11, _, hg11⟩
 rw [known2k]
 have HB11 := jh (HB10.out.trans ((hg11.below HO10.out.low.2 HO10.out.low.1).mono HB6.out.size))
 clear hg11
 go_wp2_with fail
 go_ret
 exact ⟨rfl, HB11.out⟩
end Go.Proofs.YtkhejkfjhddobaaGreatDoor
