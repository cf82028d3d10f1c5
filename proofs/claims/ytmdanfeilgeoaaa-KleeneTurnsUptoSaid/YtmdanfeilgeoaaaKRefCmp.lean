/- gimletref14.Cmp of any two formulas. -/
import Derived.Test.YtmdanfeilgeoaaaKRefA
namespace Go.Proofs.Ytmdanfeilgeoaaa
open Go.RowKit Gim Go.Sort Go.Lib
def CmpAt (f : Fm) : Prop := ∀ op v x bs a n c op2 v2 x2 bs2 a2 n2 c2 W, f = .mk op v x bs → FitS W bs a n c → FitS W bs2 a2 n2 c2 →
  Calls Try.prog 63 #[.agg #[.int .i64 op, .int .i64 v, .int .i64 x, .slice a n c], .agg #[.int .i64 op2, .int .i64 v2, .int .i64 x2, .slice a2 n2 c2]] W fun e w' => e = .returned (.int .i64 (ordF f (.mk op2 v2 x2 bs2))) ∧ Grows W w'
set_option maxRecDepth 100000 in
set_option maxHeartbeats 8000000 in
theorem cmp_all : ∀ (k : Nat) (f : Fm), SizeOf.sizeOf f ≤ k → CmpAt f := by
  intro k
  induction k with
  | zero =>
    intro f hk
    obtain ⟨o, v, x, gs⟩ := f
    exact absurd hk (by simp)
  | succ k ih =>
  intro f hk x1 x2 x3 bs a n c y1 y2 y3 bs2 a2 n2 c2 w hf hF hF2
  subst hf
  have IH := Lib.hid (fun f (hf : f ∈ bs) => ih f (by have := List.sizeOf_lt_of_mem hf; simp at hk; omega))
  have HLN := Lib.hid hF.len
  have HLN2 := Lib.hid hF2.len
  have hnb : n ≤ 9223372036854775807 := by have := hF.le; have := hF.cap_le; unfold maxLen at this; omega
  have hnb2 : n2 ≤ 9223372036854775807 := by have := hF2.le; have := hF2.cap_le; unfold maxLen at this; omega
  have HF := Lib.hid (fun W (hg : Grows w W) => hF.below hg.below)
  have HF2 := Lib.hid (fun W (hg : Grows w W) => hF2.below hg.below)
  clear ih hk hF hF2
  obtain ⟨R, hR⟩ : ∃ R, ordF (.mk x1 x2 x3 bs) (.mk y1 y2 y3 bs2) = R := ⟨_, rfl⟩
  have HRR := Lib.hid (show (if or3 (cmpZ x1 y1) (cmpZ x2 y2) (cmpZ x3 y3) = 0 then ordL bs bs2 else or3 (cmpZ x1 y1) (cmpZ x2 y2) (cmpZ x3 y3)) = R by rw [← hR]; conv => rhs; unfold ordF)
  rw [hR]
  clear hR
  obtain ⟨w0, hw0⟩ : ∃ w0, (w.alloc (.cells #[.int .i64 x1, .int .i64 x2, .int .i64 x3, .slice a n c] 26)).alloc (.cells #[.int .i64 y1, .int .i64 y2, .int .i64 y3, .slice a2 n2 c2] 26) = w0 := ⟨_, rfl⟩
  have hg : Grows w w0 := by rw [← hw0]; exact ((Grows.refl w).alloc _).alloc _
  have hx : w0.heap[w.heap.size]? = some (.cells #[.int .i64 x1, .int .i64 x2, .int .i64 x3, .slice a n c] 26) := by rw [← hw0]; exact (heap_alloc_old _ _ (by simp)).trans (heap_alloc_new _ _)
  have hy : w0.heap[w.heap.size + 1]? = some (.cells #[.int .i64 y1, .int .i64 y2, .int .i64 y3, .slice a2 n2 c2] 26) := by
    rw [← hw0]
    have := heap_alloc_new (w.alloc (.cells #[.int .i64 x1, .int .i64 x2, .int .i64 x3, .slice a n c] 26)) (.cells #[.int .i64 y1, .int .i64 y2, .int .i64 y3, .slice a2 n2 c2] 26)
    rw [World.size_alloc] at this
    exact this
  go_enter Try.func63, Try.ntmps63
  go_upto_region 1 with fail
  try rw [hw0]
  clear hw0
  obtain ⟨B, hB⟩ : ∃ B, w.heap.size = B := ⟨_, rfl⟩
  rw [hB] at hx hy ⊢
  obtain ⟨⟨q1, q2, q3, q7⟩, _⟩ := cells4_of hx
  obtain ⟨⟨q4, q5, q6, q8⟩, _⟩ := cells4_of hy
  have HX := Lib.hid hx
  have HY := Lib.hid hy
  have HG := Lib.hid hg
  clear hg hx hy hB
  have hP := heap_alloc_new w0 (.cells #[.int .i64 x1, .int .i64 y1, .int .i64 x2, .int .i64 y2, .int .i64 x3, .int .i64 y3] 107)
  have hgP : Grows w0 (w0.alloc (.cells #[.int .i64 x1, .int .i64 y1, .int .i64 x2, .int .i64 y2, .int .i64 x3, .int .i64 y3] 107)) := (Grows.refl _).alloc _
  go_upto_block 0 with fail
  go_wp2_with fail
  obtain ⟨P, hPe⟩ : ∃ P, w0.heap.size = P := ⟨_, rfl⟩
  obtain ⟨w1, hw1⟩ : ∃ w1, w0.alloc (.cells #[.int .i64 x1, .int .i64 y1, .int .i64 x2, .int .i64 y2, .int .i64 x3, .int .i64 y3] 107) = w1 := ⟨_, rfl⟩
  rw [hw1] at hP hgP ⊢
  rw [hPe] at hP ⊢
  have HP := Lib.hid hP
  have HG1 := Lib.hid (HG.out.trans hgP)
  have HX1 := Lib.hid ((hgP.below.block B (Array.getElem?_eq_some_iff.1 HX.out).1).trans HX.out)
  have HY1 := Lib.hid ((hgP.below.block (B + 1) (Array.getElem?_eq_some_iff.1 HY.out).1).trans HY.out)
  clear hw1 hPe hP hgP q1 q2 q3 q4 q5 q6 q7 q8
  go_loopw [26] (fun i wr => ∃ (q : Nat), i = .int .i64 q ∧ q ≤ 3 ∧ Grows w1 wr ∧ Hid (∀ j, j < q → pick3 x1 x2 x3 j = pick3 y1 y2 y3 j)) (fun i _ => 3 - (RowKit.intOf i).toNat)
  case atStart => exact ⟨0, rfl, Nat.zero_le _, Grows.refl _, Lib.hid (fun j hj => absurd hj (Nat.not_lt_zero _))⟩
  case round =>
    obtain ⟨q, rfl, hq, hgr, HM⟩ := hrel
    have hgw := HG1.out.trans hgr
    by_cases hqn : q < 3
    · have hqn' : (q : Int) < 3 := by omega
      have hb := (hgr.below.block P (Array.getElem?_eq_some_iff.1 HP.out).1).trans HP.out
      have c0 : wr.cell? ⟨P, q * 2, none⟩ = some (.int .i64 (pick3 x1 x2 x3 q)) ∧ wr.cell? ⟨P, q * 2 + 1, none⟩ = some (.int .i64 (pick3 y1 y2 y3 q)) := by
        match q, hqn with
        | 0, _ => simp [World.cell?, hb, pick3]
        | 1, _ => simp [World.cell?, hb, pick3]
        | 2, _ => simp [World.cell?, hb, pick3]
      obtain ⟨c0, c1⟩ := c0
      obtain ⟨A, hA⟩ : ∃ A, Hid (pick3 x1 x2 x3 q = A) := ⟨_, Lib.hid rfl⟩
      obtain ⟨D, hD⟩ : ∃ D, Hid (pick3 y1 y2 y3 q = D) := ⟨_, Lib.hid rfl⟩
      rw [hA.out] at c0
      rw [hD.out] at c1
      have HGW := Lib.hid (hgw.alloc (.cells #[.int .i64 A, .int .i64 D] 107))
      have HGR := Lib.hid (hgr.alloc (.cells #[.int .i64 A, .int .i64 D] 107))
      clear hb hgw hgr
      by_cases hl : A < D
      · have HT := Lib.hid (tri_lt hqn HM.out (by rw [hA.out, hD.out]; exact hl))
        go_wp2_with fail
        go_ret
        refine ⟨?_, HGW.out⟩
        have h5 := HRR.out
        rw [HT.out, if_neg (by omega)] at h5
        rw [← h5]
        rfl
      · by_cases hg2 : D < A
        · have HT := Lib.hid (tri_gt hqn HM.out (by rw [hA.out, hD.out]; exact hg2))
          go_wp2_with fail
          go_ret
          refine ⟨?_, HGW.out⟩
          have h5 := HRR.out
          rw [HT.out, if_neg (by omega)] at h5
          rw [← h5]
          rfl
        · go_wp2_with fail
          go_roundw
          case rel =>
            refine ⟨q + 1, by go_num, by omega, HGR.out, Lib.hid fun j hj => ?_⟩
            by_cases hjq : j < q
            · exact HM.out j hjq
            · obtain rfl : j = q := by omega
              rw [hA.out, hD.out]
              omega
          case measure => simp [RowKit.intOf]; omega
    · obtain rfl : q = 3 := by omega
      have h0 := tri_eq HM.out
      have hRL : ordL bs bs2 = R := by
        have h5 := HRR.out
        rw [if_pos h0] at h5
        exact h5
      have HRL := Lib.hid hRL
      have HGW := Lib.hid hgw
      have hxr := (hgr.below.block B (Array.getElem?_eq_some_iff.1 HX1.out).1).trans HX1.out
      have hyr := (hgr.below.block (B + 1) (Array.getElem?_eq_some_iff.1 HY1.out).1).trans HY1.out
      have HXR := Lib.hid hxr
      have HYR := Lib.hid hyr
      clear h0 hRL hgw hgr hxr hyr HM
      go_wp2_with fail
      obtain ⟨W9, hW9⟩ : ∃ W9, W9 = wr := ⟨_, rfl⟩
      subst hW9
      go_loopw [7] (fun i ws => ∃ (q : Nat), i = .int .i64 q ∧ q ≤ n ∧ q ≤ n2 ∧ Grows W9 ws ∧ Hid (ordL (bs.drop q) (bs2.drop q) = R)) (fun i _ => n - (RowKit.intOf i).toNat)
      case atStart => exact ⟨0, rfl, Nat.zero_le _, Nat.zero_le _, Grows.refl _, Lib.hid HRL.out⟩
      case round =>
        obtain ⟨q, rfl, hq, hq2, hgr, HM⟩ := hrel
        have hgw := HGW.out.trans hgr
        have hxs := (hgr.below.block B (Array.getElem?_eq_some_iff.1 HXR.out).1).trans HXR.out
        have hys := (hgr.below.block (B + 1) (Array.getElem?_eq_some_iff.1 HYR.out).1).trans HYR.out
        have kx := (cells4_of hxs).1.2.2.2
        have ky := (cells4_of hys).1.2.2.2
        by_cases hqn : q < n
        · have hqn' : (q : Int) < n := by omega
          by_cases hqm : q < n2
          · have hqm' : (q : Int) < n2 := by omega
            have hGR : ∀ m os, Grows wr (grow (wr.drewN m) os) := fun m os => ⟨m, os, rfl⟩
            obtain ⟨b1, o1, op, v, x, es, a1, n1, c1, rfl, hb1, hel, d0, d1, d2, d3, hE1⟩ := (HF.out wr hgw).elem q hqn
            obtain ⟨b3, o3, op3, v3, x3', es3, a3, n3, c3, rfl, hb3, hel3, e0, e1, e2, e3, hE3⟩ := (HF2.out wr hgw).elem q hqm
            have hst := ordL_step hel hel3
            rw [HM.out] at hst
            have hmem := List.mem_of_getElem? hel
            have k1 := fun m os => IH.out _ hmem op v x es a1 n1 c1 op3 v3 x3' es3 a3 n3 c3 (grow (wr.drewN m) os) rfl (hE1.below (hGR m os).below) (hE3.below (hGR m os).below)
            obtain ⟨r, hr⟩ : ∃ r, ordF (.mk op v x es) (.mk op3 v3 x3' es3) = r := ⟨_, rfl⟩
            rw [hr] at hst k1
            have k2 : ∀ m os, Calls Try.prog 63 #[.agg #[.int .i64 op, .int .i64 v, .int .i64 x, .slice a1 n1 c1], .agg #[.int .i64 op3, .int .i64 v3, .int .i64 x3', .slice a3 n3 c3]] (grow (wr.drewN m) os) fun e w' => e = .returned (.int .i64 r) ∧ ∃ q os', w' = grow ((grow (wr.drewN m) os).drewN q) os' := k1
            have hcell : ∀ m os, (grow (wr.drewN m) os).cell? ⟨B, 3, none⟩ = some (.slice (some ⟨b1, o1, none⟩) n c) ∧ (grow (wr.drewN m) os).cell? ⟨B + 1, 3, none⟩ = some (.slice (some ⟨b3, o3, none⟩) n2 c2) ∧
                (grow (wr.drewN m) os).cell? ⟨b1, o1 + q * 4, none⟩ = some (.int .i64 op) ∧ (grow (wr.drewN m) os).cell? ⟨b1, o1 + q * 4 + 1, none⟩ = some (.int .i64 v) ∧ (grow (wr.drewN m) os).cell? ⟨b1, o1 + q * 4 + 2, none⟩ = some (.int .i64 x) ∧ (grow (wr.drewN m) os).cell? ⟨b1, o1 + q * 4 + 3, none⟩ = some (.slice a1 n1 c1) ∧
                (grow (wr.drewN m) os).cell? ⟨b3, o3 + q * 4, none⟩ = some (.int .i64 op3) ∧ (grow (wr.drewN m) os).cell? ⟨b3, o3 + q * 4 + 1, none⟩ = some (.int .i64 v3) ∧ (grow (wr.drewN m) os).cell? ⟨b3, o3 + q * 4 + 2, none⟩ = some (.int .i64 x3') ∧ (grow (wr.drewN m) os).cell? ⟨b3, o3 + q * 4 + 3, none⟩ = some (.slice a3 n3 c3) := fun m os => by
              have hb := (hGR m os).below
              have h1 := (hb.block B (Array.getElem?_eq_some_iff.1 hxs).1).trans hxs
              have h2 := (hb.block (B + 1) (Array.getElem?_eq_some_iff.1 hys).1).trans hys
              exact ⟨(cells4_of h1).1.2.2.2, (cells4_of h2).1.2.2.2, (hb.cell (p := ⟨b1, _, none⟩) hb1).trans d0, (hb.cell (p := ⟨b1, _, none⟩) hb1).trans d1, (hb.cell (p := ⟨b1, _, none⟩) hb1).trans d2, (hb.cell (p := ⟨b1, _, none⟩) hb1).trans d3, (hb.cell (p := ⟨b3, _, none⟩) hb3).trans e0, (hb.cell (p := ⟨b3, _, none⟩) hb3).trans e1, (hb.cell (p := ⟨b3, _, none⟩) hb3).trans e2, (hb.cell (p := ⟨b3, _, none⟩) hb3).trans e3⟩
            have HST := Lib.hid hst
            have HGR := Lib.hid hgr
            have mixed := laysSortF.mixed
            clear k1 hr hst hmem hel hel3 hE1 hE3 hGR hgr d0 d1 d2 d3 e0 e1 e2 e3 hb1 hb3 HM hxs hys
            go_upto_region 12 with fail
            clear kx ky
            go_quiet_grown (first | (go_at_call 63; refine Calls.grown_of (k2 _ _)) | (go_at_fn 63; refine Calls.grown_of (k2 _ _)))
            have HG4 := Lib.hid (HGR.out.trans (⟨nq, osq, rfl⟩ : Grows wr (grow (wr.drewN nq) osq)))
            obtain ⟨W1, hW1⟩ : ∃ W1, grow (wr.drewN nq) osq = W1 := ⟨_, rfl⟩
            rw [hW1] at HG4 ⊢
            clear hW1 k2 hcell hgw
            by_cases hz : r = 0
            · subst hz
              go_wp2_with fail
              go_roundw
              case rel => exact ⟨q + 1, by go_num, by omega, by omega, HG4.out, Lib.hid (by simpa using HST.out.symm)⟩
              case measure => simp [RowKit.intOf]; omega
            · have hz2 : (r != 0) = true := by simpa using hz
              go_wp2_with fail
              go_ret
              refine ⟨?_, HGW.out.trans HG4.out⟩
              have h5 := HST.out
              rw [if_neg hz] at h5
              rw [h5]
              rfl
          · have hqm' : ¬ (q : Int) < n2 := by omega
            obtain rfl : q = n2 := by omega
            have HE := Lib.hid (show R = 1 by rw [← HM.out]; exact ordL_long (by rw [HLN.out]; exact hqn) (by rw [HLN2.out]; exact Nat.le_refl _))
            have HGF := Lib.hid hgw
            have hS := fun W => sign_calls ((n : Int) - q) W
            rw [show sgn ((n : Int) - q) = 1 by unfold sgn; rw [if_neg (by omega), if_pos (by omega)]] at hS
            have hw1 : wrap64 ((n : Int) - q) = (n : Int) - q := by unfold wrap64; omega
            clear HM hgw hgr hxs hys
            go_wp2_with fail
            refine (hS _).mono ?_
            rintro e wz ⟨rfl, rfl⟩
            go_wp2_with fail
            go_ret
            exact ⟨by rw [HE.out]; rfl, HGF.out⟩
        · have hqn' : ¬ (q : Int) < n := by omega
          obtain rfl : q = n := by omega
          have HGF := Lib.hid hgw
          have hw1 : wrap64 ((q : Int) - n2) = (q : Int) - n2 := by unfold wrap64; omega
          by_cases hqm : q < n2
          · have HE := Lib.hid (show R = -1 by rw [← HM.out]; exact ordL_short (by rw [HLN.out]; exact Nat.le_refl _) (by rw [HLN2.out]; exact hqm))
            have hS := fun W => sign_calls ((q : Int) - n2) W
            rw [show sgn ((q : Int) - n2) = -1 by unfold sgn; rw [if_pos (by omega)]] at hS
            clear HM hgw hgr hxs hys
            go_wp2_with fail
            refine (hS _).mono ?_
            rintro e wz ⟨rfl, rfl⟩
            go_wp2_with fail
            go_ret
            exact ⟨by rw [HE.out]; rfl, HGF.out⟩
          · obtain rfl : q = n2 := by omega
            have HE := Lib.hid (show R = 0 by rw [← HM.out]; exact ordL_end (by rw [HLN.out]; exact Nat.le_refl _) (by rw [HLN2.out]; exact Nat.le_refl _))
            have hS := fun W => sign_calls 0 W
            rw [show sgn 0 = 0 by decide] at hS
            have hw0 : wrap64 0 = 0 := wrap64_tiny (by omega) (by omega)
            clear HM hgw hgr hxs hys hw1
            go_wp2_with fail
            refine (hS _).mono ?_
            rintro e wz ⟨rfl, rfl⟩
            go_wp2_with fail
            go_ret
            exact ⟨by rw [HE.out]; rfl, HGF.out⟩
theorem refCmp_calls (op v x : Int) (bs : List Fm) (a : Option Addr) (n c : Nat) (op2 v2 x2 : Int) (bs2 : List Fm) (a2 : Option Addr) (n2 c2 : Nat) (W : World) (hF : FitS W bs a n c) (hF2 : FitS W bs2 a2 n2 c2) :
    Calls Try.prog 63 #[.agg #[.int .i64 op, .int .i64 v, .int .i64 x, .slice a n c], .agg #[.int .i64 op2, .int .i64 v2, .int .i64 x2, .slice a2 n2 c2]] W fun e w' => e = .returned (.int .i64 (ordF (.mk op v x bs) (.mk op2 v2 x2 bs2))) ∧ Grows W w' :=
  cmp_all _ _ (Nat.le_refl _) op v x bs a n c op2 v2 x2 bs2 a2 n2 c2 W rfl hF hF2
end Go.Proofs.Ytmdanfeilgeoaaa
