/- gimletlaw14.same of any two formulas. -/
import Derived.Test.YtmdanfeilgeoaaaKEvals
namespace Gim
open Go Go.RowKit Go.Sort Go.Proofs Go.Lib
def sameB (f g : Fm) : Bool := decide (ordF f g = 0)
theorem sameB_iff (f g : Fm) : sameB f g = true ↔ f = g := by
  unfold sameB
  rw [decide_eq_true_eq]
  exact ⟨ordF_eq f g, fun e => by rw [e]; exact ordF_self g⟩
theorem sameB_self (f : Fm) : sameB f f = true := (sameB_iff f f).2 rfl
theorem sameB_ne {f g : Fm} (h : f ≠ g) : sameB f g = false := by
  cases hs : sameB f g with
  | false => rfl
  | true => exact absurd ((sameB_iff f g).1 hs) h
theorem sameB_head (o v x : Int) (gs hs : List Fm) : sameB (.mk o v x gs) (.mk o v x hs) = decide (ordL (gs.drop 0) (hs.drop 0) = 0) := by
  unfold sameB
  conv => lhs; unfold ordF
  rcases tri_cases o v x o v x with h | h | h
  · simp only [if_pos h.1]
    rfl
  · omega
  · omega
end Gim
namespace Go.Proofs.Ytmdanfeilgeoaaa
open Go.RowKit Gim Go.Sort Go.Lib
def SameAt (f : Fm) : Prop := ∀ op v x bs a n c op2 v2 x2 bs2 a2 n2 c2 W, f = .mk op v x bs → FitS W bs a n c → FitS W bs2 a2 n2 c2 →
  Calls Try.prog 14 #[.agg #[.int .i64 op, .int .i64 v, .int .i64 x, .slice a n c], .agg #[.int .i64 op2, .int .i64 v2, .int .i64 x2, .slice a2 n2 c2]] W fun e w' => e = .returned (.bool (sameB f (.mk op2 v2 x2 bs2))) ∧ Grows W w'
set_option maxRecDepth 100000 in
set_option maxHeartbeats 8000000 in
theorem same_all : ∀ (k : Nat) (f : Fm), SizeOf.sizeOf f ≤ k → SameAt f := by
  intro k
  induction k with
  | zero =>
    intro f hk
    obtain ⟨o, v, x, gs⟩ := f
    exact absurd hk (by simp)
  | succ k ih =>
  intro f hk x1 x2 x3 bs a n c y1 y2 y3 bs2 a2 n2 c2 w hf hF hF2
  subst hf
  have IH := Lib.hid (fun f (hf : f ∈ bs) => ih f (by have := List.sizeOf_lt_of_mem hf; simp at hk; omega))
  have HLN := Lib.hid hF.len
  have HLN2 := Lib.hid hF2.len
  have hnb : n ≤ 9223372036854775807 := by have := hF.le; have := hF.cap_le; unfold maxLen at this; omega
  have hnb2 : n2 ≤ 9223372036854775807 := by have := hF2.le; have := hF2.cap_le; unfold maxLen at this; omega
  have HF := Lib.hid (fun W (hg : Grows w W) => hF.below hg.below)
  have HF2 := Lib.hid (fun W (hg : Grows w W) => hF2.below hg.below)
  clear ih hk hF hF2
  obtain ⟨w0, hw0⟩ : ∃ w0, (w.alloc (.cells #[.int .i64 x1, .int .i64 x2, .int .i64 x3, .slice a n c] 26)).alloc (.cells #[.int .i64 y1, .int .i64 y2, .int .i64 y3, .slice a2 n2 c2] 26) = w0 := ⟨_, rfl⟩
  have hg : Grows w w0 := by rw [← hw0]; exact ((Grows.refl w).alloc _).alloc _
  have hx : w0.heap[w.heap.size]? = some (.cells #[.int .i64 x1, .int .i64 x2, .int .i64 x3, .slice a n c] 26) := by rw [← hw0]; exact (heap_alloc_old _ _ (by simp)).trans (heap_alloc_new _ _)
  have hy : w0.heap[w.heap.size + 1]? = some (.cells #[.int .i64 y1, .int .i64 y2, .int .i64 y3, .slice a2 n2 c2] 26) := by
    rw [← hw0]
    have := heap_alloc_new (w.alloc (.cells #[.int .i64 x1, .int .i64 x2, .int .i64 x3, .slice a n c] 26)) (.cells #[.int .i64 y1, .int .i64 y2, .int .i64 y3, .slice a2 n2 c2] 26)
    rw [World.size_alloc] at this
    exact this
  have hsz : w0.heap.size = w.heap.size + 2 := by rw [← hw0]; simp
  go_enter Try.func14, Try.ntmps14
  go_upto_region 1 with fail
  try rw [hw0]
  clear hw0
  obtain ⟨B, hB⟩ : ∃ B, w.heap.size = B := ⟨_, rfl⟩
  rw [hB] at hx hy hsz ⊢
  obtain ⟨⟨q1, q2, q3, q7⟩, _⟩ := cells4_of hx
  obtain ⟨⟨q4, q5, q6, q8⟩, _⟩ := cells4_of hy
  have HX := Lib.hid hx
  have HY := Lib.hid hy
  have HG := Lib.hid hg
  clear hg hx hy hsz hB
  by_cases h1 : x1 = y1
  · subst h1
    by_cases h2 : x2 = y2
    · subst h2
      by_cases h3 : x3 = y3
      · subst h3
        by_cases h4 : n = n2
        · subst h4
          obtain ⟨R, hR⟩ : ∃ R, ordL bs bs2 = R := ⟨_, rfl⟩
          have HR := Lib.hid hR
          have HS := Lib.hid (show sameB (.mk x1 x2 x3 bs) (.mk x1 x2 x3 bs2) = decide (R = 0) by rw [sameB_head, ← hR]; rfl)
          clear hR
          go_wp2_with fail
          go_loopw [37] (fun i wr => ∃ (q : Nat), i = .int .i64 q ∧ q ≤ n ∧ Grows w0 wr ∧ Hid (ordL (bs.drop q) (bs2.drop q) = R)) (fun i _ => n - (RowKit.intOf i).toNat)
          case atStart => exact ⟨0, rfl, Nat.zero_le _, Grows.refl _, Lib.hid HR.out⟩
          case round =>
            obtain ⟨q, rfl, hq, hgr, HM⟩ := hrel
            have hgw := HG.out.trans hgr
            by_cases hqn : q < n
            · have hqn' : (q : Int) < n := by omega
              have hGR : ∀ m os, Grows wr (grow (wr.drewN m) os) := fun m os => ⟨m, os, rfl⟩
              obtain ⟨b1, o1, op, v, x, es, a1, n1, c1, rfl, hb1, hel, d0, d1, d2, d3, hE1⟩ := (HF.out wr hgw).elem q hqn
              obtain ⟨b3, o3, op3, v3, x3', es3, a3, n3, c3, rfl, hb3, hel3, e0, e1, e2, e3, hE3⟩ := (HF2.out wr hgw).elem q hqn
              have hst := ordL_step hel hel3
              rw [HM.out] at hst
              have hmem := List.mem_of_getElem? hel
              have k1 := fun m os => IH.out _ hmem op v x es a1 n1 c1 op3 v3 x3' es3 a3 n3 c3 (grow (wr.drewN m) os) rfl (hE1.below (hGR m os).below) (hE3.below (hGR m os).below)
              obtain ⟨r, hr⟩ : ∃ r, ordF (.mk op v x es) (.mk op3 v3 x3' es3) = r := ⟨_, rfl⟩
              have hsr : sameB (.mk op v x es) (.mk op3 v3 x3' es3) = decide (r = 0) := by rw [← hr]; rfl
              obtain ⟨s, hs⟩ : ∃ s, decide (r = 0) = s := ⟨_, rfl⟩
              rw [hsr, hs] at k1
              rw [hr] at hst
              have k2 : ∀ m os, Calls Try.prog 14 #[.agg #[.int .i64 op, .int .i64 v, .int .i64 x, .slice a1 n1 c1], .agg #[.int .i64 op3, .int .i64 v3, .int .i64 x3', .slice a3 n3 c3]] (grow (wr.drewN m) os) fun e w' => e = .returned (.bool s) ∧ ∃ q os', w' = grow ((grow (wr.drewN m) os).drewN q) os' := k1
              have hcell : ∀ m os, (grow (wr.drewN m) os).cell? ⟨B, 3, none⟩ = some (.slice (some ⟨b1, o1, none⟩) n c) ∧ (grow (wr.drewN m) os).cell? ⟨B + 1, 3, none⟩ = some (.slice (some ⟨b3, o3, none⟩) n c2) ∧
                  (grow (wr.drewN m) os).cell? ⟨b1, o1 + q * 4, none⟩ = some (.int .i64 op) ∧ (grow (wr.drewN m) os).cell? ⟨b1, o1 + q * 4 + 1, none⟩ = some (.int .i64 v) ∧ (grow (wr.drewN m) os).cell? ⟨b1, o1 + q * 4 + 2, none⟩ = some (.int .i64 x) ∧ (grow (wr.drewN m) os).cell? ⟨b1, o1 + q * 4 + 3, none⟩ = some (.slice a1 n1 c1) ∧
                  (grow (wr.drewN m) os).cell? ⟨b3, o3 + q * 4, none⟩ = some (.int .i64 op3) ∧ (grow (wr.drewN m) os).cell? ⟨b3, o3 + q * 4 + 1, none⟩ = some (.int .i64 v3) ∧ (grow (wr.drewN m) os).cell? ⟨b3, o3 + q * 4 + 2, none⟩ = some (.int .i64 x3') ∧ (grow (wr.drewN m) os).cell? ⟨b3, o3 + q * 4 + 3, none⟩ = some (.slice a3 n3 c3) := fun m os => by
                have hb := (hGR m os).below
                have h1 := ((hgr.trans (hGR m os)).below.block B (Array.getElem?_eq_some_iff.1 HX.out).1).trans HX.out
                have h2 := ((hgr.trans (hGR m os)).below.block (B + 1) (Array.getElem?_eq_some_iff.1 HY.out).1).trans HY.out
                exact ⟨(cells4_of h1).1.2.2.2, (cells4_of h2).1.2.2.2, (hb.cell (p := ⟨b1, _, none⟩) hb1).trans d0, (hb.cell (p := ⟨b1, _, none⟩) hb1).trans d1, (hb.cell (p := ⟨b1, _, none⟩) hb1).trans d2, (hb.cell (p := ⟨b1, _, none⟩) hb1).trans d3, (hb.cell (p := ⟨b3, _, none⟩) hb3).trans e0, (hb.cell (p := ⟨b3, _, none⟩) hb3).trans e1, (hb.cell (p := ⟨b3, _, none⟩) hb3).trans e2, (hb.cell (p := ⟨b3, _, none⟩) hb3).trans e3⟩
              have HST := Lib.hid hst
              have HSS := Lib.hid hs
              have HGR := Lib.hid hgr
              have mixed := laysSortF.mixed
              clear k1 hsr hs hr hst hmem hel hel3 hE1 hE3 hGR hgr d0 d1 d2 d3 e0 e1 e2 e3 hb1 hb3 HM
              go_upto_region 6 with fail
              go_quiet_grown (first | (go_at_call 14; refine Calls.grown_of (k2 _ _)) | (go_at_fn 14; refine Calls.grown_of (k2 _ _)))
              have HG4 := Lib.hid (HGR.out.trans (⟨nq, osq, rfl⟩ : Grows wr (grow (wr.drewN nq) osq)))
              obtain ⟨W1, hW1⟩ : ∃ W1, grow (wr.drewN nq) osq = W1 := ⟨_, rfl⟩
              rw [hW1] at HG4 ⊢
              clear hW1 k2 hcell
              cases s
              · have hz : ¬ r = 0 := of_decide_eq_false HSS.out
                go_wp2_with fail
                go_ret
                refine ⟨?_, HG.out.trans HG4.out⟩
                have h5 := HST.out
                rw [if_neg hz] at h5
                rw [HS.out, h5, HSS.out]
                rfl
              · have hz : r = 0 := of_decide_eq_true HSS.out
                go_wp2_with fail
                go_roundw
                case rel =>
                  refine ⟨q + 1, by go_num, by omega, HG4.out, Lib.hid ?_⟩
                  have h5 := HST.out
                  rw [if_pos hz] at h5
                  exact h5.symm
                case measure => simp [RowKit.intOf]; omega
            · obtain rfl : q = n := by omega
              have HGW := Lib.hid hgw
              have HE := Lib.hid (show R = 0 by rw [← HM.out]; exact ordL_end (by rw [HLN.out]; exact Nat.le_refl _) (by rw [HLN2.out]; exact Nat.le_refl _))
              clear HM hgw hgr
              go_wp2_with fail
              go_ret
              exact ⟨by rw [HS.out, HE.out]; rfl, HGW.out⟩
        · have h4' : ((n : Int) != n2) = true := by simp; omega
          have HN := Lib.hid (show sameB (.mk x1 x2 x3 bs) (.mk x1 x2 x3 bs2) = false from sameB_ne fun e => h4 (by rw [← HLN.out, ← HLN2.out]; injection e with _ _ _ e4; rw [e4]))
          go_wp2_with fail
          go_ret
          exact ⟨by rw [HN.out]; rfl, HG.out⟩
      · have h3' : (x3 != y3) = true := by simpa using h3
        have HN := Lib.hid (show sameB (.mk x1 x2 x3 bs) (.mk x1 x2 y3 bs2) = false from sameB_ne fun e => h3 (by injection e))
        go_wp2_with fail
        go_ret
        exact ⟨by rw [HN.out]; rfl, HG.out⟩
    · have h2' : (x2 != y2) = true := by simpa using h2
      have HN := Lib.hid (show sameB (.mk x1 x2 x3 bs) (.mk x1 y2 y3 bs2) = false from sameB_ne fun e => h2 (by injection e))
      go_wp2_with fail
      go_ret
      exact ⟨by rw [HN.out]; rfl, HG.out⟩
  · have h1' : (x1 != y1) = true := by simpa using h1
    have HN := Lib.hid (show sameB (.mk x1 x2 x3 bs) (.mk y1 y2 y3 bs2) = false from sameB_ne fun e => h1 (by injection e))
    go_wp2_with fail
    go_ret
    exact ⟨by rw [HN.out]; rfl, HG.out⟩
theorem sameF_calls (op v x : Int) (bs : List Fm) (a : Option Addr) (n c : Nat) (op2 v2 x2 : Int) (bs2 : List Fm) (a2 : Option Addr) (n2 c2 : Nat) (W : World) (hF : FitS W bs a n c) (hF2 : FitS W bs2 a2 n2 c2) :
    Calls Try.prog 14 #[.agg #[.int .i64 op, .int .i64 v, .int .i64 x, .slice a n c], .agg #[.int .i64 op2, .int .i64 v2, .int .i64 x2, .slice a2 n2 c2]] W fun e w' => e = .returned (.bool (sameB (.mk op v x bs) (.mk op2 v2 x2 bs2))) ∧ Grows W w' :=
  same_all _ _ (Nat.le_refl _) op v x bs a n c op2 v2 x2 bs2 a2 n2 c2 W rfl hF hF2
end Go.Proofs.Ytmdanfeilgeoaaa
