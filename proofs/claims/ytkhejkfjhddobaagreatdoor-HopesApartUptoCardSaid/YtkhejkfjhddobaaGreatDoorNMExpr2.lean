/- (*maker).expr of gimlet/net. -/
import Derived.Test.YtkhejkfjhddobaaGreatDoorNMPredM
import Derived.Deep.RegionWith
set_option maxRecDepth 100000
set_option maxHeartbeats 8000000
namespace Gim
open Go Go.RowKit
theorem yP5 (w : World) (op : Int) (t : TypeId) : ∀ j u, (yBy ⟨op, .slice none 0 0, 0, 0, ByteArray.empty, 0, ByteArray.empty, 0⟩)[j]? = some u → (w.alloc (.cells #[.int .i64 op, .slice none 0 0, .int .i64 0, .int .i64 0, .string { data := #[] }, .int .i64 0, .string { data := #[] }, .int .i64 0] t)).cell? ⟨w.heap.size, j, none⟩ = some u := by intro j u hj; have hn := jw w (.cells #[.int .i64 op, .slice none 0 0, .int .i64 0, .int .i64 0, .string { data := #[] }, .int .i64 0, .string { data := #[] }, .int .i64 0] t); unfold World.cell?; rw [hn]; have e : ByteArray.empty = { data := #[] } := rfl; rw [e] at hj; simpa [yBy] using hj
theorem yQr (op : Int) : ∀ u ∈ yBy ⟨op, .slice none 0 0, 0, 0, ByteArray.empty, 0, ByteArray.empty, 0⟩, u.oneCell' = true := by
 intro u hu; simp only [yBy, List.mem_cons, List.not_mem_nil, or_false] at hu; rcases hu with rfl | rfl | rfl | rfl | rfl | rfl | rfl | rfl <;> rfl
theorem yFW {a b : Nat} (h : a = b) : Ending.returned (.int .i64 ((a : Nat) : Int)) = .returned (.int .i64 ((b : Nat) : Int)) := by rw [h]
end Gim
namespace Go.Proofs.YtkhejkfjhddobaaGreatDoor
open Go.RowKit Gim
theorem yI3 (op : Int) (args : List Ex) (sts : List St) (nm : ByteArray) (cmp : Int) (txt : ByteArray) (num : Int) (hop : op = 0 ∨ op = 1 ∨ op = 2 ∨ op = 3) (hA : op ≠ 3 → ∀ a ∈ args, PX a) : PX (.mk op args sts nm cmp txt num) := by
 intro W0 M main st op' args' sts' nm' cmp' txt' num' a1 n1 c1 a2 n2 c2 w he hF1 hF2 h hfit; injection he with e1 e2 e3 e4 e5 e6 e7; subst e1 e2 e3 e4 e5 e6 e7; obtain ⟨tg, vr, vp, vw, cr, cp, cw, h⟩ := h; have hM := h.lt; obtain ⟨W1, hW1⟩ := je (w.alloc (.cells #[.int .i64 op, .slice a1 n1 c1, .slice a2 n2 c2, .string nm, .int .i64 cmp, .string txt, .int .i64 num] 66)); have hX : W1.heap[w.heap.size]? = some (.cells #[.int .i64 op, .slice a1 n1 c1, .slice a2 n2 c2, .string nm, .int .i64 cmp, .string txt, .int .i64 num] 66) := by rw [← hW1]; exact jw _ _
 have h1 := h.same (show Below w.heap.size w W1 by rw [← hW1]; exact (jf _ _).alloc (jr _) _); obtain ⟨ap, cap, hvp, hcp, _⟩ := yAb h1.pre; have hpl : cp.length ≤ 1048576 := by rw [h1.lp]; have := hfit.preds; omega
 have hsz : 1 ≤ szX (.mk op args sts nm cmp txt num) := by unfold szX; omega
 have HLP := jh (show cp.length < 1099511627776 by omega); have m2 : W1.cell? ⟨M, 2, none⟩ = some (.slice ap cp.length cap) := by simp [World.cell?, h1.hM, hvp]
 have zM : W1.frozen? ⟨M, 2, none⟩ = false := by simp [World.frozen?, h1.hM]
 have x0 := jc hX 0 rfl; have hMs : M < W1.heap.size := h1.lt; have hXs : w.heap.size < W1.heap.size := jl hX; have HNE : Hid (some M ≠ (Value.slice ap cp.length cap).ownBlock) := jh fun e => by have h2 := h1.t2 M (by rw [hvp]; exact e.symm); rw [h1.t0] at h2; cases h2
 have HNX : Hid (some w.heap.size ≠ (Value.slice ap cp.length cap).ownBlock) := jh fun e => by have := (h.own2 w.heap.size (by rw [hvp]; exact e.symm)).2; omega
 have hpre := h1.pre; rw [hvp] at hpre; have HROW : Hid ((W1.alloc (.cells #[.int .i64 op, .slice none 0 0, .int .i64 0, .int .i64 0, .string { data := #[] }, .int .i64 0, .string { data := #[] }, .int .i64 0] 59)).drew.ownsRow W0.heap.size 59 8 (.slice ap cp.length cap) cp.length (cp.flatMap yBy)) := jh (yAa (World.ownsRow.alloc hpre _) fun _ _ => rfl); have HNEW : Hid (∀ j u, (yBy ⟨op, .slice none 0 0, 0, 0, ByteArray.empty, 0, ByteArray.empty, 0⟩)[j]? = some u → (W1.alloc (.cells #[.int .i64 op, .slice none 0 0, .int .i64 0, .int .i64 0, .string { data := #[] }, .int .i64 0, .string { data := #[] }, .int .i64 0] 59)).drew.cell? ⟨W1.heap.size, j, none⟩ = some u) := jh (yP5 W1 op 59); have HLT : Hid (W1.heap.size < (W1.alloc (.cells #[.int .i64 op, .slice none 0 0, .int .i64 0, .int .i64 0, .string { data := #[] }, .int .i64 0, .string { data := #[] }, .int .i64 0] 59)).drew.heap.size) := jh (by show _ < (W1.alloc _).heap.size; rw [World.size_alloc]; exact Nat.lt_succ_self _); have HB1 := jh (show W0.heap.size ≤ W1.heap.size from h1.bel.size); have hh1 := h1; rw [hvp] at hh1; have HH1 := jh hh1; have HM1 := jh (show ∀ w3 : World, w3.heap[M]? = W1.heap[M]? → w3.cell? ⟨M, 2, none⟩ = some (.slice ap cp.length cap) ∧ w3.frozen? ⟨M, 2, none⟩ = false from fun w3 e => ⟨(World.cell?_of_block (w := W1) e).trans m2, (World.frozen?_of_block (w := W1) e).trans zM⟩); have HX := jh hX; have HLQ := jh h1.lp; have HW1 := jh hW1; have HF1 := jh hF1; have HF2 := jh hF2; have HFI := jh hfit; have HA := jh hA; have HOP := jh hop; clear h h1 hh1 hX hvp hpre hW1 hF1 hF2 hfit hA hop hsz; go_enter Tryz.func35, Tryz.ntmps35; go_upto_region 1 with fail; rw [HW1.out]; go_upto_region 2 with fail; go_cut [] from 12 to 25 (fun wx => MkW W0 M wx main (addPred st op) ∧ wx.heap[w.heap.size]? = W1.heap[w.heap.size]?)
 case first =>
  go_region_law (first
    | (refine yBs _ (by rfl) (.tmp 17) (.tmp 21) 34 59 (by rfl) _ 8 96 yP7 Tryz.underlying34 (by rfl) (by decide) (by decide) W0.heap.size (.slice ap cp.length cap) cp.length (cp.flatMap yBy) (by rfl) HROW.out (yBy ⟨op, .slice none 0 0, 0, 0, ByteArray.empty, 0, ByteArray.empty, 0⟩) (by rfl) (yQr _) W1.heap.size (by rfl) HNEW.out HLP.out (ju HB1.out (Nat.le_of_lt HLT.out)) ?_; intro v3 w3 own3 grow3 at3; obtain ⟨a3, c3, rfl, _⟩ := yAb own3; have hgr : W1.grownBy w3 (Value.slice ap cp.length cap).ownBlock := ⟨grow3.os, grow3.tape, grow3.output, ju (Nat.le_of_lt HLT.out) grow3.size, fun b hb hne => (grow3.block b (Nat.lt_trans hb HLT.out) hne).trans (heap_alloc_old W1 _ hb)⟩; have hat : (Value.slice a3 (cp.length + 1) c3).ownBlock = (Value.slice ap cp.length cap).ownBlock ∨ ∃ j, (Value.slice a3 (cp.length + 1) c3).ownBlock = some j ∧ W1.heap.size ≤ j := at3.elim .inl fun e => .inr ⟨_, e, Nat.le_of_lt HLT.out⟩; have hm3 := HM1.out w3 (hgr.block _ hMs HNE.out); have hx3 := hm3.1; have hzf3 := hm3.2; have hxs3 : M < w3.heap.size := jt hMs hgr.size; have HS3 := jh (hgr.block _ hXs HNX.out); have HG3 := jh hgr; have HAT3 := jh hat; have HOW3 := jh own3; clear own3 grow3 at3 hgr hat hm3))
  all_goals
   go_wp2_with fail; go_meet; exact ⟨HH1.out.addPred HOW3.out HG3.out HAT3.out, (js w3 ⟨M, 2, none⟩ (.slice a3 (cp.length + 1) c3) w.heap.size (by show w.heap.size ≠ M; omega)).trans HS3.out⟩
 case rest =>
 obtain ⟨h2, hX2⟩ := hcut; rw [HX.out] at hX2; clear m2 zM x0 hMs hXs; obtain ⟨W2, hW2⟩ := je (wc); rw [hW2] at h2 hX2 ⊢; clear hW2; have x0 := jc hX2 0 rfl; have x1 := jc hX2 1 rfl; have x2 := jc hX2 2 rfl; have x3 := jc hX2 3 rfl; have x4 := jc hX2 4 rfl; have x5 := jc hX2 5 rfl; have x6 := jc hX2 6 rfl; have hXs : w.heap.size < W2.heap.size := jl hX2; have hk : cp.length < (Gim.addPred st op).preds.length := by rw [HLQ.out]; simp [Gim.addPred]
 have hra := yD3 st op; have HD3 : Hid (op = 3 → ∀ W, Below W2.heap.size W2 W → Calls Tryz.prog 92 #[.pointer (some ⟨M, 0, none⟩), .agg #[.int .i64 op, .slice a1 n1 c1, .slice a2 n2 c2, .string nm, .int .i64 cmp, .string txt, .int .i64 num], .int .i64 cp.length] W fun e w' => e = .returned (.tuple #[]) ∧ MkW W0 M w' main (cX (.mk op args sts nm cmp txt num) st)) := jh fun e W hb => by
  have hz : szX (.mk op args sts nm cmp txt num) = 1 + (sts.length + yBe sts) + yAU args := by unfold szX; rfl
  have := yN9 W0 M main (Gim.addPred st op) op sts nm cmp txt num a1 n1 c1 a2 n2 c2 cp.length W (h2.same hb) HF2.out hk (HFI.out.room hra (by have := HF2.out.len; omega) (by have := HF2.out.len; omega) (by have := HF2.out.len; omega)); unfold cX; rw [if_pos e, ← HLQ.out]; exact this
 have HD0 : Hid (op ≠ 3 → ∀ W, Below W2.heap.size W2 W → Calls Tryz.prog 91 #[.pointer (some ⟨M, 0, none⟩), .agg #[.int .i64 op, .slice a1 n1 c1, .slice a2 n2 c2, .string nm, .int .i64 cmp, .string txt, .int .i64 num], .int .i64 cp.length] W fun e w' => e = .returned (.tuple #[]) ∧ MkW W0 M w' main (cX (.mk op args sts nm cmp txt num) st)) := jh fun e W hb => by
  have hz : szX (.mk op args sts nm cmp txt num) = 1 + (sts.length + yBe sts) + yAU args := by unfold szX; rfl
  have := yL7 W0 M main (Gim.addPred st op) op args nm cmp txt num a1 n1 c1 a2 n2 c2 cp.length W (HA.out e) (h2.same hb) HF1.out hk (HFI.out.room hra (by omega) (by omega) (by omega)); unfold cX; rw [if_neg e, ← HLQ.out]; exact this
 have HQ := jh HLQ.out; clear h2 hX2 hk hra HA HFI HX HM1 HH1 HROW HNEW HLT HB1 HNE HNX HLP; go_upto_region 3 with fail; rcases HOP.out with rfl | rfl | rfl | rfl
 ·have HE := jh (HD0.out (by decide)); clear HD0 HD3 HOP; go_region_with (first
   | (go_at_call 60; refine (yCc _).mono ?_; rintro e w' ⟨rfl, rfl⟩)
   | (go_at_call 91; refine (HE.out _ (by first | exact ((jf _ _).alloc (jr _) _).drew | exact ((jf _ _).drew).alloc (jr _) _)).mono ?_; rintro e w5 ⟨rfl, h5⟩; have H5 := jh h5; clear h5)
   | (go_at_call 92; refine (HE.out _ (by first | exact ((jf _ _).alloc (jr _) _).drew | exact ((jf _ _).drew).alloc (jr _) _)).mono ?_; rintro e w5 ⟨rfl, h5⟩; have H5 := jh h5; clear h5))
  all_goals
   go_wp2_with fail; go_ret; exact ⟨yFW HQ.out, H5.out⟩
 ·have HE := jh (HD0.out (by decide)); clear HD0 HD3 HOP; go_region_with (first
   | (go_at_call 60; refine (yCc _).mono ?_; rintro e w' ⟨rfl, rfl⟩)
   | (go_at_call 91; refine (HE.out _ (by first | exact ((jf _ _).alloc (jr _) _).drew | exact ((jf _ _).drew).alloc (jr _) _)).mono ?_; rintro e w5 ⟨rfl, h5⟩; have H5 := jh h5; clear h5)
   | (go_at_call 92; refine (HE.out _ (by first | exact ((jf _ _).alloc (jr _) _).drew | exact ((jf _ _).drew).alloc (jr _) _)).mono ?_; rintro e w5 ⟨rfl, h5⟩; have H5 := jh h5; clear h5))
  all_goals
   go_wp2_with fail; go_ret; exact ⟨yFW HQ.out, H5.out⟩
 ·have HE := jh (HD0.out (by decide)); clear HD0 HD3 HOP; go_region_with (first
   | (go_at_call 60; refine (yCc _).mono ?_; rintro e w' ⟨rfl, rfl⟩)
   | (go_at_call 91; refine (HE.out _ (by first | exact ((jf _ _).alloc (jr _) _).drew | exact ((jf _ _).drew).alloc (jr _) _)).mono ?_; rintro e w5 ⟨rfl, h5⟩; have H5 := jh h5; clear h5)
   | (go_at_call 92; refine (HE.out _ (by first | exact ((jf _ _).alloc (jr _) _).drew | exact ((jf _ _).drew).alloc (jr _) _)).mono ?_; rintro e w5 ⟨rfl, h5⟩; have H5 := jh h5; clear h5))
  all_goals
   go_wp2_with fail; go_ret; exact ⟨yFW HQ.out, H5.out⟩
 ·have HE := jh (HD3.out rfl); clear HD0 HD3 HOP; go_region_with (first
   | (go_at_call 60; refine (yCc _).mono ?_; rintro e w' ⟨rfl, rfl⟩)
   | (go_at_call 91; refine (HE.out _ (by first | exact ((jf _ _).alloc (jr _) _).drew | exact ((jf _ _).drew).alloc (jr _) _)).mono ?_; rintro e w5 ⟨rfl, h5⟩; have H5 := jh h5; clear h5)
   | (go_at_call 92; refine (HE.out _ (by first | exact ((jf _ _).alloc (jr _) _).drew | exact ((jf _ _).drew).alloc (jr _) _)).mono ?_; rintro e w5 ⟨rfl, h5⟩; have H5 := jh h5; clear h5))
  all_goals
   go_wp2_with fail; go_ret; exact ⟨yFW HQ.out, H5.out⟩
mutual
theorem yL4 : ∀ x : Ex, gdX x = true → PX x
 | .mk op args sts nm cmp txt num, hg => by
  unfold gdX at hg; by_cases h3 : op = 3
  ·exact yI3 op args sts nm cmp txt num (.inr (.inr (.inr h3))) fun h => absurd h3 h
  ·rw [if_neg h3] at hg; simp only [jb] at hg; obtain ⟨_, _, _, _, _, hl, ha⟩ := hg; have hop : op = 0 ∨ op = 1 ∨ op = 2 ∨ op = 3 := by
    unfold lnB at hl; split at hl
    ·rename_i h; exact h.elim .inl fun h => .inr (.inl h)
    ·split at hl
     ·rename_i h; exact .inr (.inr (.inl h))
     ·cases hl
   exact yI3 op args sts nm cmp txt num hop fun _ => yKl args ha
theorem yKl : ∀ l : List Ex, yAQ l = true → ∀ a ∈ l, PX a
 | [], _, _, h => by cases h
 | x :: r, hg, a, h => by
  unfold yAQ at hg; simp only [jb] at hg; rcases List.mem_cons.1 h with e | e
  ·rw [e]; exact yL4 x hg.1
  ·exact yKl r hg.2 a e
end
end Go.Proofs.YtkhejkfjhddobaaGreatDoor
