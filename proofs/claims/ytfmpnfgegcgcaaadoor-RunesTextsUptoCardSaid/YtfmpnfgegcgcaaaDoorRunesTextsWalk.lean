/- The walk of gimletlaw01.RunesTexts. -/
import Derived.Test.YtfmpnfgegcgcaaaDoorRefMendWalk
import Derived.Test.YtfmpnfgegcgcaaaDoorByteWalk
import Derived.Test.YtfmpnfgegcgcaaaDoorPutWalk
import Derived.Test.YtfmpnfgegcgcaaaDoorAwakeA
import Derived.Test.YtfmpnfgegcgcaaaDoorConvR
namespace Gim
open Go Go.RowKit
theorem rd_four (w : World) (a b c d : Int) (t : TypeId) : Rd (w.alloc (.cells #[.int .u8 a, .int .u8 b, .int .u8 c, .int .u8 d] t)) .u8 (some ⟨w.heap.size, 0, none⟩) 4 4 [a, b, c, d] :=
  ⟨rfl, Nat.le_refl _, by unfold maxLen; omega, fun j hj => ⟨_, _, rfl, by simp, fun i hi => by
    have hh := heap_alloc_new w (.cells #[.int .u8 a, .int .u8 b, .int .u8 c, .int .u8 d] t)
    unfold World.cell?
    rw [hh, Nat.zero_add]
    rcases (show i = 0 ∨ i = 1 ∨ i = 2 ∨ i = 3 by omega) with rfl | rfl | rfl | rfl <;> rfl⟩⟩
theorem Row.some {w : World} {B : Nat} {e : TypeId} {k : IntKind} {v : Value} {xs : List Int} (h : Row w B e k v xs) (hl : 1 ≤ xs.length) : ∃ g cap, v = .slice (some ⟨g, 0, none⟩) xs.length cap ∧ B ≤ g ∧ g < w.heap.size := by
  rcases h.2 with ⟨_, h0⟩ | ⟨g, cap, cur, h1, h2, h3, _⟩
  · omega
  · exact ⟨g, cap, h1, h2, (Array.getElem?_eq_some_iff.1 h3).1⟩
theorem byteB_bounds (s : ByteArray) (i : Int) : 0 ≤ (byteB s i).2 ∧ (byteB s i).2 ≤ 2 := by
  unfold byteB
  by_cases h1 : 0 ≤ i ∧ i < (prAt s 0).length
  · rw [if_pos h1]; dsimp only; omega
  rw [if_neg h1]
  by_cases h2 : i = (prAt s 0).length
  · rw [if_pos h2]; dsimp only; omega
  rw [if_neg h2]; dsimp only; omega
end Gim
namespace Go.Proofs.YtfmpnfgegcgcaaaDoor
open Go.RowKit Gim
set_option maxRecDepth 20000 in
set_option maxHeartbeats 8000000 in
theorem runesTexts_walk (s : ByteArray) (i : Int) (ao : Option Addr) (n cap : Nat) (xs : List Int) (r : Int) (w : World) (hs : s.size ≤ 1048576) (hi : (Lit.int .i64 i).wf = true) (h : Rd w .u8 ao n cap xs) (hnone : ao = none → n = 0 ∧ cap = 0) (hwf : ∀ x ∈ xs, (Lit.int .u8 x).wf = true) (hn : n ≤ 1048576) (hr : (Lit.int .i32 r).wf = true) (hT : U8 w) :
    Calls Tryd.prog 8 #[.string s, .int .i64 i, .slice ao n cap, .int .i32 r] w fun e w' => e = .returned (.bool true) ∧ Below w.heap.size w w' := by
  have hr' : -2147483648 ≤ r ∧ r ≤ 2147483647 := by simpa [Lit.wf, IntKind.min, IntKind.max, IntKind.signed, IntKind.bits] using hr
  have hi' : -9223372036854775808 ≤ i ∧ i ≤ 9223372036854775807 := by simpa [Lit.wf, IntKind.min, IntKind.max, IntKind.signed, IntKind.bits] using hi
  obtain ⟨hr0, hr1⟩ := hr'
  obtain ⟨hi0, hi1⟩ := hi'
  have hxs : ∀ x ∈ xs, 0 ≤ x ∧ x ≤ 255 := fun x hx => wf_u8 (hwf x hx)
  have hl := h.len
  have htk : (xs ++ [71, 72, 73]).take n = xs := by rw [← hl]; exact List.take_left
  have hbb := byteB_bounds s i
  have hzl := Lib.encodeRuneZ_length (fixR r)
  rw [← z_fix r] at hzl
  obtain ⟨zs, hzs⟩ : ∃ zs, zs = xs ++ Lib.encodeRuneZ r := ⟨_, rfl⟩
  obtain ⟨N, hN⟩ : ∃ N, N = zs.length := ⟨_, rfl⟩
  have hNb : N ≤ n + 4 ∧ 1 ≤ N := by rw [hN, hzs, List.length_append]; omega
  obtain ⟨hN4, hN1⟩ := hNb
  have HZ := Lib.hid hzs
  have HN := Lib.hid hN
  have HXS := Lib.hid hxs
  have HTK := Lib.hid htk
  clear hwf hi hr hl htk hxs hzs hN hzl
  go_enter Tryd.func8, Tryd.ntmps8
  go_wp2_with fail
  refine (awake_calls _ hT).mono ?_
  rintro e w1 ⟨rfl, b1⟩
  go_wp2_with fail
  refine (mend_calls s w1 (by omega)).mono ?_
  rintro e w2 ⟨rfl, k2⟩
  have b2 := b1.trans (k2.mono b1.size)
  go_wp2_with fail
  refine (refMend_calls w2 s (by omega)).mono ?_
  rintro e w3 ⟨rfl, k3⟩
  have b3 := b2.trans (k3.mono b2.size)
  obtain ⟨X, hX⟩ : ∃ X, X = runesBytes (rs s) := ⟨_, rfl⟩
  rw [← hX]
  clear hX b1 b2 k2 k3
  go_wp2_with fail
  refine (mendParts_calls s w3 (by omega) (U8.below hT b3)).mono ?_
  rintro e w4 ⟨rfl, k4⟩
  have b4 := b3.trans (k4.mono b3.size)
  go_wp2_with fail
  refine (refMendParts_calls w4 s (by omega)).mono ?_
  rintro e w5 ⟨rfl, k5⟩
  have b5 := b4.trans (k5.mono b4.size)
  obtain ⟨Y, hY⟩ : ∃ Y, Y = runesBytes (parts (bz s.data.toList)) := ⟨_, rfl⟩
  rw [← hY]
  clear hY b3 b4 k4 k5
  have cB := byte_calls s i w5 (by omega)
  have cR := fun wx => refByte_calls wx s i (by omega) hi0 hi1
  obtain ⟨⟨q1, q2⟩, hq⟩ : ∃ q, q = byteB s i := ⟨_, rfl⟩
  rw [← hq] at hbb cB
  have cR' : ∀ wx, Calls Tryd.prog 40 #[.string s, .int .i64 i] wx fun e w' => e = .returned (.tuple #[.int .i64 q1, .int .i64 q2]) ∧ Below wx.heap.size wx w' := fun wx => by have := cR wx; rw [← hq] at this; exact this
  dsimp only at hbb cB
  obtain ⟨q20, q22⟩ := hbb
  clear hq cR
  go_wp2_with fail
  refine cB.mono ?_
  rintro e w6 ⟨rfl, k6⟩
  have b6 := b5.trans (k6.mono b5.size)
  go_wp2_with fail
  refine (cR' w6).mono ?_
  rintro e w7 ⟨rfl, k7⟩
  have b7 := b6.trans (k7.mono b6.size)
  clear b5 b6 k6 k7 cB cR'
  go_wp2_with fail
  refine (laid_calls w7 _ _ _ _ (h.below b7) hnone (by omega)).mono ?_
  rintro e u2 ⟨a2, c2, rfl, rd2, k2, hn2⟩
  have b8 := b7.trans (k2.mono b7.size)
  have r2 := rd2.take (m := n) (by omega)
  rw [HTK.out] at r2
  clear k2 b7
  go_wp2_with fail
  refine (put_calls u2 _ _ _ _ r2 (fun hh => absurd hh hn2) r hr0 hr1 (by omega)).mono ?_
  rintro e u3 ⟨vx, rfl, hx, k3⟩
  rw [← HZ.out] at hx
  obtain ⟨gx, cx, rfl, hg0, hg1⟩ := hx.some (by rw [← HN.out]; exact hN1)
  rw [← HN.out] at hx ⊢
  have b9 := b8.trans (k3.mono b8.size)
  have kk3 := k3
  have rd3 := rd2.below k3
  have r3 := r2.below k3
  go_wp2_with fail
  refine (put_calls u3 _ _ _ _ r3 (fun hh => absurd hh hn2) r hr0 hr1 (by omega)).mono ?_
  rintro e u4 ⟨vy, rfl, hy, k4⟩
  rw [← HZ.out] at hy
  obtain ⟨gy, cy, rfl, hy0, hy1⟩ := hy.some (by rw [← HN.out]; exact hN1)
  rw [← HN.out] at hy ⊢
  have b10 := b9.trans (k4.mono b9.size)
  have hx4 := hx.stays k4
  have rd4 := rd3.below k4
  have kk4 := kk3.trans (k4.mono kk3.size)
  have l4 : u3.heap.size ≤ u4.heap.size := k4.size
  clear b9 r3 k3 k4 hx r2 rd3
  go_wp2_with fail
  refine (refPut_calls u4 _ _ _ _ (h.below b10) hnone r (by omega)).mono ?_
  rintro e u5 ⟨vw, rfl, hw, k5⟩
  rw [← HZ.out] at hw
  obtain ⟨gw, cw, rfl, hw0, hw1⟩ := hw.some (by rw [← HN.out]; exact hN1)
  rw [← HN.out] at hw ⊢
  have b11 := b10.trans (k5.mono b10.size)
  have hx5 := hx4.stays k5
  have hy5 := hy.stays k5
  have rd5 := rd4.below k5
  have kk5 := kk4.trans (k5.mono kk4.size)
  have l5 : u4.heap.size ≤ u5.heap.size := k5.size
  clear k5 hx4 hy rd4 b10
  go_wp2_with fail
  refine (same_calls u5 _ _ _ _ hx5.rdAt' _ _ hw.rdAt' (by omega)).mono ?_
  rintro e u6 ⟨rfl, d6⟩
  have hx6 := hx5.stays (d6.below _)
  have hy6 := hy5.stays (d6.below _)
  have hw6 := hw.stays (d6.below _)
  have rd6 := rd5.below (d6.below _)
  have kk6 := kk5.trans (d6.below _)
  have b12 := b11.trans (d6.below _)
  have l6 : u5.heap.size ≤ u6.heap.size := (d6.below 0).size
  clear hx5 hy5 hw rd5 b11 d6
  go_wp2_with fail
  refine (same_calls u6 _ _ _ _ hy6.rdAt' _ _ hw6.rdAt' (by omega)).mono ?_
  rintro e u7 ⟨rfl, d7⟩
  have hx7 := hx6.stays (d7.below _)
  have hy7 := hy6.stays (d7.below _)
  have hw7 := hw6.stays (d7.below _)
  have rd7 := rd6.below (d7.below _)
  have kk7 := kk6.trans (d7.below _)
  have b13 := b12.trans (d7.below _)
  have l7 : u6.heap.size ≤ u7.heap.size := (d7.below 0).size
  clear hx6 hy6 hw6 rd6 b12 d7
  go_wp2_with fail
  refine (kept_calls u7 _ _ _ _ rd7 _ _ (h.below b13) (by omega)).mono ?_
  rintro e u8 ⟨rfl, d8⟩
  have hx8 := hx7.stays (d8.below _)
  have hy8 := hy7.stays (d8.below _)
  have hw8 := hw7.stays (d8.below _)
  have kk8 := kk7.trans (d8.below _)
  have b14 := b13.trans (d8.below _)
  have l8 : u7.heap.size ≤ u8.heap.size := (d8.below 0).size
  clear hx7 hy7 hw7 rd7 b13 d8
  have hl8 : u3.heap.size ≤ u8.heap.size := by omega
  clear kk3 kk4 kk5 kk6 kk7 l5 l6 l7 l8 hy1 hw1
  go_wp2
  go_loopw [17] (fun y wr => ∃ (j : Nat) (zt : List Int), y = .int .i64 j ∧ j ≤ N ∧ zt.length = N ∧ Row wr u2.heap.size 5 .u8 (.slice (some ⟨gx, 0, none⟩) N cx) zt ∧ Fr (fun k => k = gx) u8 wr) (fun y _ => N - (intOf y).toNat)
  case atStart => exact ⟨0, zs, rfl, by omega, HN.out.symm, hx8, Fr.refl _ _⟩
  case round =>
    obtain ⟨j, zt, rfl, hjN, hzl, hx, hF⟩ := hrel
    by_cases hj : j < N
    · have k0 := hx.cell (j := j) (by omega)
      have f0 := hx.free j
      have hx2 := hx.set' j 1
      have HZL := Lib.hid hzl
      clear hzl
      go_wp2
      go_roundw
      case rel => exact ⟨j + 1, _, by go_num, by omega, by rw [List.length_set, HZL.out], hx2, hF.set gx j _ rfl⟩
      case measure => simp [RowKit.intOf]; omega
    · obtain rfl : j = N := by omega
      have HZL := Lib.hid hzl
      clear hzl
      go_wp2_with (at_builtin; refine append_rd _ rfl _ _ rfl u2.heap.size _ zt rfl (hx.alloc _) (some ⟨wr.heap.size, 0, none⟩) 4 4 [1, 1, 1, 1] rfl (rd_four wr _ _ _ _ _) (fun hh => by cases hh) (by rw [HZL.out]; omega) (by simp; have := hF.size; omega) ?_
                   intro v9 w9 hx9 hgrow9
                   have hF9 : Fr (fun k => k = gx) u8 w9 := (hF.alloc _).grown hgrow9 (fun g hg => .inl (by cases hg; rfl))
                   obtain ⟨a9, c9, rfl, _⟩ := hx9.rd
                   have hz9 : (zt ++ [1, 1, 1, 1]).length = j + 4 := by rw [List.length_append, HZL.out]; rfl
                   rw [hz9]
                   have hy9 := hy8.fr hF9 (fun g hg => by cases hg; show ¬ gy = gx; omega)
                   have hw9 := hw8.fr hF9 (fun g hg => by cases hg; show ¬ gw = gx; omega)
                   have kk9 := kk8.trans (hF9.below (by omega) (fun k hk => by have hk : k = gx := hk; omega))
                   have rd9 := rd2.below kk9
                   have b15 := b8.trans (kk9.mono b8.size)
                   clear hgrow9 hx hF hx9 hx8 hy8 hw8 rd2 kk8 kk9 b14)
      refine (same_calls w9 _ _ _ _ hy9.rdAt' _ _ hw9.rdAt' (by omega)).mono ?_
      rintro e u9 ⟨rfl, d9⟩
      go_wp2_with fail
      refine (kept_calls u9 _ _ _ _ (rd9.below (d9.below _)) _ _ (h.below (b15.trans (d9.below _))) (by omega)).mono ?_
      rintro e ua ⟨rfl, da⟩
      go_wp2
      go_ret
      exact ⟨rfl, (b15.trans (d9.below _)).trans (da.below _)⟩
end Go.Proofs.YtfmpnfgegcgcaaaDoor
