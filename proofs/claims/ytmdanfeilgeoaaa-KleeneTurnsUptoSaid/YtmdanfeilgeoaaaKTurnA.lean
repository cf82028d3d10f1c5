/- A slice of formulas built in place; gimletlaw14.not. Printed by wip/mkturna.py. -/
import Derived.Test.YtmdanfeilgeoaaaKSimplifies
namespace Go.Proofs.Ytmdanfeilgeoaaa
open Go.RowKit Gim Go.Sort Go.Lib
theorem fitR_built {W : World} {N b : Nat} {cs : List N4} {fs : List Fm} {t : TypeId} (hb : W.heap[b]? = some (.cells (cells4 cs).toArray t)) (hN : N ≤ b) (hm : cs.length ≤ maxLen) (k : TwL N W none cs fs) : FitR N W.heap.size W fs (some ⟨b, 0, none⟩) cs.length cs.length := by
  have hl := k.len
  refine ⟨Nat.le_refl _, fun W2 hk => ⟨hl.symm, Nat.le_refl _, hm, fun j hj => ⟨b, 0, rfl, fitL_of fs 0 fun i f hi => ?_⟩⟩⟩
  have hgl := (Array.getElem?_eq_some_iff.1 hb).1
  have hgk := hk.2 b hN hgl
  have hic : i < cs.length := by rw [hl]; exact (List.getElem?_eq_some_iff.1 hi).1
  obtain ⟨c, hcc⟩ : ∃ c, cs[i]? = some c := ⟨_, List.getElem?_eq_getElem hic⟩
  obtain ⟨hs2, lo, hi2, e, hN2, hF, _⟩ := k.each i c f hcc hi
  have hcell : ∀ m u, m < 4 → (cell4 c)[m]? = some u → W2.cell? ⟨b, 0 + i * 4 + m, none⟩ = some u := fun m u hm hu => by
    have h0 := (cells4_get hcc m hm).trans hu
    rw [show 0 + i * 4 + m = i * 4 + m by omega]
    unfold World.cell?
    rw [hgk, hb]
    simpa using h0
  have hFS := hF.fit W2 (hk.mono hN2 hF.top)
  rw [e]
  unfold FitA
  exact ⟨Nat.lt_of_lt_of_le hgl hk.1, hcell 0 _ (by omega) rfl, hcell 1 _ (by omega) rfl, hcell 2 _ (by omega) rfl, _, _, _, hcell 3 _ (by omega) rfl, hFS.len, hFS.le, hFS.cap_le, hFS.fit⟩
set_option maxRecDepth 100000 in
set_option maxHeartbeats 8000000 in
theorem notM_calls (op v x : Int) (gs : List Fm) (a : Option Addr) (n cap : Nat) (w : World) (hF : FitS w gs a n cap) (hsz : szF (.mk op v x gs) ≤ 549755813888) :
    Calls Try.prog 21 #[.agg #[.int .i64 op, .int .i64 v, .int .i64 x, .slice a n cap]] w fun e w' => ∃ a' c', e = .returned (.agg #[.int .i64 4, .int .i64 0, .int .i64 0, .slice a' 1 c']) ∧ FitR w.heap.size w'.heap.size w' [.mk op v x gs] a' 1 c' ∧ Below w.heap.size w w' := by
  have hb0 : Below w.heap.size w ((w.alloc (.cells #[.int .i64 op, .int .i64 v, .int .i64 x, .slice a n cap] 26)).alloc (.cells #[.int .i64 0, .int .i64 0, .int .i64 0, .slice none 0 0] 26)) := ((Below.refl _ _).alloc (Nat.le_refl _) _).alloc (by simp) _
  have hs0 : ((w.alloc (.cells #[.int .i64 op, .int .i64 v, .int .i64 x, .slice a n cap] 26)).alloc (.cells #[.int .i64 0, .int .i64 0, .int .i64 0, .slice none 0 0] 26)).heap.size = w.heap.size + 2 := by simp
  have hx0 : ((w.alloc (.cells #[.int .i64 op, .int .i64 v, .int .i64 x, .slice a n cap] 26)).alloc (.cells #[.int .i64 0, .int .i64 0, .int .i64 0, .slice none 0 0] 26)).heap[w.heap.size]? = some (.cells #[.int .i64 op, .int .i64 v, .int .i64 x, .slice a n cap] 26) := (heap_alloc_old _ _ (by simp)).trans (heap_alloc_new _ _)
  have hr0 : ((w.alloc (.cells #[.int .i64 op, .int .i64 v, .int .i64 x, .slice a n cap] 26)).alloc (.cells #[.int .i64 0, .int .i64 0, .int .i64 0, .slice none 0 0] 26)).heap[w.heap.size + 1]? = some (.cells #[.int .i64 0, .int .i64 0, .int .i64 0, .slice none 0 0] 26) := by
    have := heap_alloc_new (w.alloc (.cells #[.int .i64 op, .int .i64 v, .int .i64 x, .slice a n cap] 26)) (.cells #[.int .i64 0, .int .i64 0, .int .i64 0, .slice none 0 0] 26)
    rw [World.size_alloc] at this
    exact this
  have HF := Lib.hid hF
  have HSZ := Lib.hid hsz
  clear hF hsz
  go_enter Try.func21, Try.ntmps21
  go_upto_region 1 with fail
  obtain ⟨w0, hw0⟩ : ∃ w0, (w.alloc (.cells #[.int .i64 op, .int .i64 v, .int .i64 x, .slice a n cap] 26)).alloc (.cells #[.int .i64 0, .int .i64 0, .int .i64 0, .slice none 0 0] 26) = w0 := ⟨_, rfl⟩
  obtain ⟨S0, hS0⟩ : ∃ S0, w.heap.size = S0 := ⟨_, rfl⟩
  rw [hw0] at hb0 hs0 hx0 hr0 ⊢
  rw [hS0] at hs0 hx0 hr0
  try rw [hS0]
  try rw [World.size_alloc, hS0]
  obtain ⟨⟨cx0, cx1, cx2, cx3⟩, _⟩ := cells4_of hx0
  have HR0 := Lib.hid hr0
  have HB0 := Lib.hid hb0
  have HS00 := Lib.hid hS0
  have HS0 := Lib.hid hs0
  clear hx0 hr0 hb0 hs0 hS0 hw0
  have hC := twin_calls _ op v x gs a n cap w0 (Nat.le_refl _) (HF.out.below HB0.out) HSZ.out
  go_wp2_with fail
  refine hC.mono ?_
  rintro e w1 ⟨ta, tc, rfl, hFR, b⟩
  have hby : Below w1.heap.size w1 (w1.alloc (.cells #[.int .i64 op, .int .i64 v, .int .i64 x, .slice ta n tc] 26)) := (Below.refl _ _).alloc (Nat.le_refl _) _
  have hx3 := heap_alloc_new w1 (.cells #[.int .i64 op, .int .i64 v, .int .i64 x, .slice ta n tc] 26)
  have HR3 := Lib.hid (((b.trans (hby.mono b.size)).block _ (Array.getElem?_eq_some_iff.1 HR0.out).1).trans HR0.out)
  have HBE := Lib.hid (HB0.out.trans ((b.trans (hby.mono b.size)).mono HB0.out.size))
  have HFR3 := Lib.hid (hFR.keeps (Keeps.of_below hby hFR.top))
  have HS1 := Lib.hid b.size
  obtain ⟨⟨y0, y1, y2, y3⟩, f0, f1, f2, f3⟩ := cells4_of HR3.out
  clear hC hFR b cx0 cx1 cx2 cx3
  go_wp2_with fail
  obtain ⟨w3, hw3⟩ : ∃ w3, w1.alloc (.cells #[.int .i64 op, .int .i64 v, .int .i64 x, .slice ta n tc] 26) = w3 := ⟨_, rfl⟩
  rw [hw3] at hx3 HR3 HBE HFR3 hby ⊢
  clear hw3
  have HX3 := Lib.hid hx3
  clear hx3 y0 y1 y2 y3 f0 f1 f2 f3
  obtain ⟨h8, g8⟩ := out4 HR3.out (.int .i64 4) (.int .i64 0) (.int .i64 0) (.slice (some ⟨w1.heap.size, 0, none⟩) 1 1)
  obtain ⟨W8, hW8⟩ : ∃ W8, Hid (W8 = (((w3.setCell ⟨S0 + 1, 0, none⟩ (.int .i64 4)).setCell ⟨S0 + 1, 1, none⟩ (.int .i64 0)).setCell ⟨S0 + 1, 2, none⟩ (.int .i64 0)).setCell ⟨S0 + 1, 3, none⟩ (.slice (some ⟨w1.heap.size, 0, none⟩) 1 1)) := ⟨_, Lib.hid rfl⟩
  rw [← hW8.out] at h8 g8 ⊢
  obtain ⟨⟨j0, j1, j2, j3⟩, _⟩ := cells4_of h8
  refine bodyPost_ret (v := .agg #[.int .i64 4, .int .i64 0, .int .i64 0, .slice (some ⟨w1.heap.size, 0, none⟩) 1 1]) ?_ rfl ?_
  · simp [results, Try.f21, go_sem, j0, j1, j2, j3]
  · have hs := HS0.out
    have hw := HS00.out
    have hs1 := HS1.out
    have hlt : w1.heap.size < w3.heap.size := (Array.getElem?_eq_some_iff.1 HX3.out).1
    have hblk : W8.heap[w1.heap.size]? = some (.cells (cells4 [(op, v, x, (ta, n, tc))]).toArray 26) := (g8.block _ hlt (fun e => by have := Option.some.inj e; omega)).trans HX3.out
    have hk1 : Keeps w0.heap.size w1.heap.size w3 W8 := Keeps.of_grown g8 HFR3.out.top (fun j e => by have := Option.some.inj e; omega)
    have hfit := fitR_built (N := w.heap.size) (fs := [.mk op v x gs]) hblk (by omega) (show 1 ≤ maxLen by decide) ⟨rfl, fun i c f h1 h2 => by
      match i, h1, h2 with
      | 0, h1, h2 =>
        cases h1
        cases h2
        exact ⟨gs, _, _, rfl, by omega, HFR3.out.keeps hk1, fun j e => by cases e⟩
      | i + 1, h1, _ => simp at h1⟩
    exact ⟨_, _, rfl, hfit, HBE.out.grown g8 HBE.out.size (fun j e => by have := Option.some.inj e; omega)⟩
end Go.Proofs.Ytmdanfeilgeoaaa
