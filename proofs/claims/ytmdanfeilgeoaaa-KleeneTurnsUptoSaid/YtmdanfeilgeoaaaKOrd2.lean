/- kleene.order of any two formulas. -/
import Derived.Test.YtmdanfeilgeoaaaKOrdLaw
import Derived.Test.YtmdanfeilgeoaaaKOrder
namespace Gim
open Go Go.RowKit Go.Sort
theorem ordL_step {gs hs : List Fm} {q : Nat} {f g : Fm} (h1 : gs[q]? = some f) (h2 : hs[q]? = some g) : ordL (gs.drop q) (hs.drop q) = if ordF f g = 0 then ordL (gs.drop (q + 1)) (hs.drop (q + 1)) else ordF f g := by
  have l1 := (List.getElem?_eq_some_iff.1 h1).1
  have l2 := (List.getElem?_eq_some_iff.1 h2).1
  rw [List.drop_eq_getElem_cons l1, List.drop_eq_getElem_cons l2, (List.getElem?_eq_some_iff.1 h1).2, (List.getElem?_eq_some_iff.1 h2).2]
  conv => lhs; unfold ordL
theorem ordL_long {gs hs : List Fm} {q : Nat} (h1 : q < gs.length) (h2 : hs.length ≤ q) : ordL (gs.drop q) (hs.drop q) = 1 := by
  rw [List.drop_eq_getElem_cons h1, List.drop_of_length_le h2]
  unfold ordL
  rfl
theorem ordL_short {gs hs : List Fm} {q : Nat} (h1 : gs.length ≤ q) (h2 : q < hs.length) : ordL (gs.drop q) (hs.drop q) = -1 := by
  rw [List.drop_eq_getElem_cons h2, List.drop_of_length_le h1]
  unfold ordL
  rfl
theorem ordL_end {gs hs : List Fm} {q : Nat} (h1 : gs.length ≤ q) (h2 : hs.length ≤ q) : ordL (gs.drop q) (hs.drop q) = 0 := by
  rw [List.drop_of_length_le h1, List.drop_of_length_le h2]
  unfold ordL
  rfl
end Gim
namespace Go.Proofs.Ytmdanfeilgeoaaa
open Go.RowKit Gim Go.Sort
def OrdAt (f : Fm) : Prop := ∀ op v x bs a n c op2 v2 x2 bs2 a2 n2 c2 W, f = .mk op v x bs → FitS W bs a n c → FitS W bs2 a2 n2 c2 →
  Calls Try.prog 46 #[.agg #[.int .i64 op, .int .i64 v, .int .i64 x, .slice a n c], .agg #[.int .i64 op2, .int .i64 v2, .int .i64 x2, .slice a2 n2 c2]] W fun e w' => e = .returned (.int .i64 (ordF f (.mk op2 v2 x2 bs2))) ∧ Grows W w'
set_option maxRecDepth 100000 in
set_option maxHeartbeats 4000000 in
theorem compareFunc_calls (gs hs : List Fm) (a b : Option Addr) (n m ca cb : Nat) (w : World) (hF : FitS w gs a n ca) (hG : FitS w hs b m cb) (hO : ∀ f ∈ gs, OrdAt f) :
    Calls Try.prog 60 #[.slice a n ca, .slice b m cb, .func (.func 46) #[] #[]] w fun e w' => e = .returned (.int .i64 (ordL gs hs)) ∧ Grows w w' := by
  have hcm := hF.cap_le
  have hle := hF.le
  have hnb : n ≤ 9223372036854775807 := by unfold maxLen at hcm; omega
  have hcm2 := hG.cap_le
  have hle2 := hG.le
  have hmb : m ≤ 9223372036854775807 := by unfold maxLen at hcm2; omega
  have HL := Lib.hid hF.len
  have HL2 := Lib.hid hG.len
  have HF := Lib.hid hF
  have HG := Lib.hid hG
  have HO := Lib.hid hO
  obtain ⟨R, hR⟩ : ∃ R, ordL gs hs = R := ⟨_, rfl⟩
  have HR := Lib.hid hR
  rw [hR]
  clear hF hG hO hcm hcm2 hR
  go_enter Try.func60, Try.ntmps60
  go_wp2_with fail
  go_loopw [13] (fun i wr => ∃ (q : Nat), i = .int .i64 q ∧ q ≤ n ∧ q ≤ m ∧ Grows w wr ∧ Hid (ordL (gs.drop q) (hs.drop q) = R)) (fun i _ => n - (RowKit.intOf i).toNat)
  case atStart => exact ⟨0, rfl, Nat.zero_le _, Nat.zero_le _, Grows.refl _, Lib.hid HR.out⟩
  case round =>
    obtain ⟨q, rfl, hq, hqm, hgr, HM⟩ := hrel
    by_cases hqn : q < n
    · have hqn' : (q : Int) < n := by omega
      obtain ⟨b1, o1, op, v, x, bs, a2, n2, c2, rfl, hb1, hel, d0, d1, d2, d3, hF2⟩ := (HF.out.below hgr.below).elem q hqn
      by_cases hqm2 : q < m
      · have hqm' : ¬ (m : Int) ≤ q := by omega
        obtain ⟨b3, o3, op3, v3, x3, bs3, a3, n3, c3, rfl, hb3, hel3, e0, e1, e2, e3, hF3⟩ := (HG.out.below hgr.below).elem q hqm2
        have hst := ordL_step hel hel3
        rw [HM.out] at hst
        have hmem := List.mem_of_getElem? hel
        have hg2 : Grows wr ((wr.alloc (.cells #[.int .i64 op, .int .i64 v, .int .i64 x, .slice a2 n2 c2] 26)).alloc (.cells #[.int .i64 op3, .int .i64 v3, .int .i64 x3, .slice a3 n3 c3] 26)) := ((Grows.refl _).alloc _).alloc _
        have hC := HO.out _ hmem op v x bs a2 n2 c2 op3 v3 x3 bs3 a3 n3 c3 _ rfl (hF2.below hg2.below) (hF3.below hg2.below)
        obtain ⟨r, hr⟩ : ∃ r, ordF (.mk op v x bs) (.mk op3 v3 x3 bs3) = r := ⟨_, rfl⟩
        rw [hr] at hst hC
        have HST := Lib.hid hst
        have HG2 := Lib.hid (hgr.trans hg2)
        clear hst hel hel3 hmem hg2 hF2 hF3 HM hr hgr
        go_wp2_with fail
        refine hC.mono ?_
        rintro e w3 ⟨rfl, hg3⟩
        have HG3 := Lib.hid (HG2.out.trans hg3)
        clear hg3 hC
        by_cases hz : r = 0
        · subst hz
          go_wp2_with fail
          go_roundw
          case rel => exact ⟨q + 1, by go_num, by omega, by omega, HG3.out, Lib.hid (by simpa using HST.out.symm)⟩
          case measure => simp [RowKit.intOf]; omega
        · have hz2 : (r != 0) = true := by simpa using hz
          go_wp2_with fail
          go_ret
          exact ⟨by have := HST.out; rw [if_neg hz] at this; rw [this]; rfl, HG3.out⟩
      · have hqm' : (m : Int) ≤ q := by omega
        have HE := Lib.hid (show R = 1 by rw [← HM.out]; exact ordL_long (by rw [HL.out]; exact hqn) (by rw [HL2.out]; omega))
        have HGR := Lib.hid (hgr.alloc (.cells #[.int .i64 op, .int .i64 v, .int .i64 x, .slice a2 n2 c2] 26))
        clear HM hel hF2 hgr
        go_wp2_with fail
        go_ret
        exact ⟨by rw [HE.out]; rfl, HGR.out⟩
    · obtain rfl : q = n := by omega
      have HGR := Lib.hid hgr
      by_cases hqm2 : q < m
      · have hqm' : (q : Int) < m := by omega
        have HE := Lib.hid (show R = -1 by rw [← HM.out]; exact ordL_short (by rw [HL.out]; exact Nat.le_refl _) (by rw [HL2.out]; exact hqm2))
        clear HM hgr
        go_wp2_with fail
        go_ret
        exact ⟨by rw [HE.out]; rfl, HGR.out⟩
      · have hqm' : ¬ (q : Int) < m := by omega
        have HE := Lib.hid (show R = 0 by rw [← HM.out]; exact ordL_end (by rw [HL.out]; exact Nat.le_refl _) (by rw [HL2.out]; omega))
        clear HM hgr
        go_wp2_with fail
        go_ret
        exact ⟨by rw [HE.out]; rfl, HGR.out⟩
set_option maxHeartbeats 4000000 in
theorem ord_at : ∀ (k : Nat) (f : Fm), SizeOf.sizeOf f ≤ k → OrdAt f := by
  intro k
  induction k with
  | zero =>
    intro f hk
    obtain ⟨o, v, x, gs⟩ := f
    exact absurd hk (by simp)
  | succ k ih =>
  intro f hk x1 x2 x3 bs a n c y1 y2 y3 bs2 a2 n2 c2 w hf hF hF2
  subst hf
  have HCF := Lib.hid (fun W (hg : Grows w W) => compareFunc_calls bs bs2 a a2 n n2 c c2 W (hF.below hg.below) (hF2.below hg.below) (fun f hf => ih f (by have := List.sizeOf_lt_of_mem hf; simp at hk; omega)))
  clear ih hk hF hF2
  obtain ⟨R, hR⟩ : ∃ R, ordF (.mk x1 x2 x3 bs) (.mk y1 y2 y3 bs2) = R := ⟨_, rfl⟩
  have HRR := Lib.hid (show (if or3 (cmpZ x1 y1) (cmpZ x2 y2) (cmpZ x3 y3) = 0 then ordL bs bs2 else or3 (cmpZ x1 y1) (cmpZ x2 y2) (cmpZ x3 y3)) = R by rw [← hR]; conv => rhs; unfold ordF)
  rw [hR]
  clear hR
  obtain ⟨c1, hc1⟩ : ∃ c1, cmpZ x1 y1 = c1 := ⟨_, rfl⟩
  obtain ⟨c2', hc2⟩ : ∃ c2, cmpZ x2 y2 = c2 := ⟨_, rfl⟩
  obtain ⟨c3, hc3⟩ : ∃ c3, cmpZ x3 y3 = c3 := ⟨_, rfl⟩
  have k1 := fun w => cmpFormulaOp_calls x1 y1 w
  have k2 := fun w => cmpTruth_calls x2 y2 w
  have k3 := fun w => cmpInt_calls x3 y3 w
  simp only [hc1, hc2, hc3] at k1 k2 k3 HRR
  clear hc1 hc2 hc3
  obtain ⟨w0, hw0⟩ : ∃ w0, (w.alloc (.cells #[.int .i64 x1, .int .i64 x2, .int .i64 x3, .slice a n c] 26)).alloc (.cells #[.int .i64 y1, .int .i64 y2, .int .i64 y3, .slice a2 n2 c2] 26) = w0 := ⟨_, rfl⟩
  have hg : Grows w w0 := by rw [← hw0]; exact ((Grows.refl w).alloc _).alloc _
  have hx : w0.heap[w.heap.size]? = some (.cells #[.int .i64 x1, .int .i64 x2, .int .i64 x3, .slice a n c] 26) := by rw [← hw0]; exact (heap_alloc_old _ _ (by simp)).trans (heap_alloc_new _ _)
  have hy : w0.heap[w.heap.size + 1]? = some (.cells #[.int .i64 y1, .int .i64 y2, .int .i64 y3, .slice a2 n2 c2] 26) := by
    rw [← hw0]
    have := heap_alloc_new (w.alloc (.cells #[.int .i64 x1, .int .i64 x2, .int .i64 x3, .slice a n c] 26)) (.cells #[.int .i64 y1, .int .i64 y2, .int .i64 y3, .slice a2 n2 c2] 26)
    rw [World.size_alloc] at this
    exact this
  have hsz : w0.heap.size = w.heap.size + 2 := by rw [← hw0]; simp
  go_enter Try.func46, Try.ntmps46
  go_upto_region 1 with fail
  try rw [hw0]
  clear hw0
  obtain ⟨B, hB⟩ : ∃ B, w.heap.size = B := ⟨_, rfl⟩
  rw [hB] at hx hy hsz ⊢
  have hcell : ∀ W : World, Grows w0 W → W.cell? ⟨B, 0, none⟩ = some (.int .i64 x1) ∧ W.cell? ⟨B, 1, none⟩ = some (.int .i64 x2) ∧ W.cell? ⟨B, 2, none⟩ = some (.int .i64 x3) ∧ W.cell? ⟨B + 1, 0, none⟩ = some (.int .i64 y1) ∧ W.cell? ⟨B + 1, 1, none⟩ = some (.int .i64 y2) ∧ W.cell? ⟨B + 1, 2, none⟩ = some (.int .i64 y3) ∧ W.cell? ⟨B, 3, none⟩ = some (.slice a n c) ∧ W.cell? ⟨B + 1, 3, none⟩ = some (.slice a2 n2 c2) := fun W hW => by
    have h1 := (hW.below.block B (by omega)).trans hx
    have h2 := (hW.below.block (B + 1) (by omega)).trans hy
    simp [World.cell?, h1, h2]
  obtain ⟨q1, q2, q3, q4, q5, q6, q7, q8⟩ := hcell w0 (Grows.refl _)
  obtain ⟨d1, d2, d3, d4, d5, d6, d7, d8⟩ := hcell w0.drew (Grows.refl _).drew
  have HG := Lib.hid hg
  have HSZ := Lib.hid hsz
  have HC := Lib.hid hcell
  clear hg hsz hcell hx hy
  go_region_held3 (fun W => W.cell? ⟨B, 0, none⟩ = some (.int .i64 x1) ∧ W.cell? ⟨B, 1, none⟩ = some (.int .i64 x2) ∧ W.cell? ⟨B, 2, none⟩ = some (.int .i64 x3) ∧ W.cell? ⟨B + 1, 0, none⟩ = some (.int .i64 y1) ∧ W.cell? ⟨B + 1, 1, none⟩ = some (.int .i64 y2) ∧ W.cell? ⟨B + 1, 2, none⟩ = some (.int .i64 y3) ∧ W.cell? ⟨B, 3, none⟩ = some (.slice a n c) ∧ W.cell? ⟨B + 1, 3, none⟩ = some (.slice a2 n2 c2)) (first | exact HC.out _ (Grows.refl _) | exact HC.out _ (Grows.refl _).drew | exact HC.out _ ((Grows.refl _).alloc _).drew | go_keep) (first
    | (go_at_call 57; refine (k1 _).mono ?_; rintro e wz ⟨rfl, rfl⟩)
    | (go_at_call 58; refine (k2 _).mono ?_; rintro e wz ⟨rfl, rfl⟩)
    | (go_at_call 59; refine (k3 _).mono ?_; rintro e wz ⟨rfl, rfl⟩)
    | (go_at_call 56; refine (cmpOr_calls w0.heap.size c1 c2' c3 _ (w0.alloc (.cells #[.int .i64 c1, .int .i64 c2', .int .i64 c3] 3)).drew (heap_alloc_new w0 _)).mono ?_; rintro e wz ⟨rfl, rfl⟩))
  have hgw : Grows w0 (w0.alloc (.cells #[.int .i64 c1, .int .i64 c2', .int .i64 c3] 3)).drew := ((Grows.refl _).alloc _).drew
  obtain ⟨p1, p2, p3, p4, p5, p6, p7, p8⟩ := HC.out _ hgw
  have HGW := Lib.hid (HG.out.trans hgw)
  have hcf := HCF.out _ HGW.out
  clear q1 q2 q3 q4 q5 q6 q7 q8 d1 d2 d3 d4 d5 d6 d7 d8 hgw
  obtain ⟨r, hr⟩ : ∃ r, or3 c1 c2' c3 = r := ⟨_, rfl⟩
  obtain ⟨s, hs⟩ : ∃ s, ordL bs bs2 = s := ⟨_, rfl⟩
  rw [hr]
  rw [hs] at hcf
  rw [hr, hs] at HRR
  clear hr hs
  by_cases h0 : r = 0
  · subst h0
    rw [if_pos rfl] at HRR
    go_wp2_with fail
    refine hcf.mono ?_
    rintro e wz ⟨rfl, hgz⟩
    have HGZ := Lib.hid (HGW.out.trans hgz)
    clear hgz hcf
    go_wp2_with fail
    go_ret
    exact ⟨by rw [← HRR.out]; rfl, HGZ.out⟩
  · have h0' : (r != 0) = true := by simpa using h0
    rw [if_neg h0] at HRR
    go_wp2_with fail
    go_ret
    exact ⟨by rw [← HRR.out]; rfl, HGW.out⟩
theorem ord_calls (op v x : Int) (bs : List Fm) (a : Option Addr) (n c : Nat) (op2 v2 x2 : Int) (bs2 : List Fm) (a2 : Option Addr) (n2 c2 : Nat) (W : World) (hF : FitS W bs a n c) (hF2 : FitS W bs2 a2 n2 c2) :
    Calls Try.prog 46 #[.agg #[.int .i64 op, .int .i64 v, .int .i64 x, .slice a n c], .agg #[.int .i64 op2, .int .i64 v2, .int .i64 x2, .slice a2 n2 c2]] W fun e w' => e = .returned (.int .i64 (ordF (.mk op v x bs) (.mk op2 v2 x2 bs2))) ∧ Grows W w' :=
  ord_at _ _ (Nat.le_refl _) op v x bs a n c op2 v2 x2 bs2 a2 n2 c2 W rfl hF hF2
end Go.Proofs.Ytmdanfeilgeoaaa
