/- gimletlaw14.KleeneSimplifies answers true. Printed by wip/mksimplifies.py. -/
import Derived.Test.YtmdanfeilgeoaaaKKeeps
import Derived.Test.YtmdanfeilgeoaaaKRefEval
import Derived.Test.YtmdanfeilgeoaaaKIs
namespace Go.Proofs.Ytmdanfeilgeoaaa
open Go.RowKit Gim Go.Sort Go.Lib
set_option maxRecDepth 100000 in
set_option maxHeartbeats 16000000 in
theorem simplifies_walk (op v x : Int) (gs : List Fm) (a : Option Addr) (n cap : Nat) (va : Option Addr) (vn vc : Nat) (vs : List Int) (w : World)
    (hF : FitS w gs a n cap) (hV : Rd w .i64 va vn vc vs) (hVn : va = none → vn = 0 ∧ vc = 0) (_hVw : ∀ x ∈ vs, (Lit.int .i64 x).wf = true) (hVb : vn ≤ 1048576) :
    Calls Try.prog 3 #[.agg #[.int .i64 op, .int .i64 v, .int .i64 x, .slice a n cap], .slice va vn vc] w fun e w' => e = .returned (.bool true) ∧ Below w.heap.size w w' := by
  have hb0 : Below w.heap.size w (w.alloc (.cells #[.int .i64 op, .int .i64 v, .int .i64 x, .slice a n cap] 26)) := ((Grows.refl _).alloc _).below
  have hbx := heap_alloc_new w (.cells #[.int .i64 op, .int .i64 v, .int .i64 x, .slice a n cap] 26)
  have hF1 := hF.below hb0
  have hV1 := hV.below hb0
  obtain ⟨W1, hW1⟩ : ∃ W1, w.alloc (.cells #[.int .i64 op, .int .i64 v, .int .i64 x, .slice a n cap] 26) = W1 := ⟨_, rfl⟩
  rw [hW1] at hb0 hbx hF1 hV1
  have hGr := great_calls op v x gs a n cap W1 hF1
  have HB0 := Lib.hid hb0
  have HF1 := Lib.hid hF1
  have HV1 := Lib.hid hV1
  have HVN := Lib.hid hVn
  have HVL := Lib.hid hV.len
  have HBX := Lib.hid hbx
  have HVB := Lib.hid hVb
  have hvb : vn ≤ 9223372036854775807 := by omega
  clear hVb
  obtain ⟨B, hB⟩ : ∃ B, Hid (w.heap.size = B) := ⟨_, Lib.hid rfl⟩
  obtain ⟨⟨k0, k1, k2, k3⟩, _⟩ := cells4_of hbx
  rw [hB.out] at HBX k0 k1 k2 k3
  clear hF hV hb0 hbx hF1 hV1 hVn
  by_cases hr : restF (.mk op v x gs) 65536 < 0
  · rw [decide_eq_true hr] at hGr
    clear hr
    go_enter Try.func3, Try.ntmps3
    go_upto_region 1 with fail
    try rw [hW1]
    try rw [hB.out]
    clear hW1
    go_wp2_with fail
    refine hGr.mono ?_
    rintro e w2 ⟨rfl, g2⟩
    have hX := fixed_calls w2
    have HB2 := Lib.hid (HB0.out.trans (g2.below.mono HB0.out.size))
    clear hGr g2 k0 k1 k2 k3
    go_wp2_with fail
    refine hX.mono ?_
    rintro e w3 ⟨rfl, b3⟩
    have HB3 := Lib.hid (HB2.out.trans (b3.mono HB2.out.size))
    clear hX b3
    go_wp2_with fail
    go_ret
    exact ⟨rfl, HB3.out⟩
  · rw [decide_eq_false hr] at hGr
    have hsz := sz_small hr
    have HSZ := Lib.hid hsz
    clear hr hsz
    go_enter Try.func3, Try.ntmps3
    go_upto_region 1 with fail
    try rw [hW1]
    try rw [hB.out]
    clear hW1
    go_wp2_with fail
    refine hGr.mono ?_
    rintro e w2 ⟨rfl, g2⟩
    have HB2 := Lib.hid g2.below
    clear hGr g2 k0 k1 k2 k3
    obtain ⟨⟨k0, k1, k2, k3⟩, _⟩ := cells4_of ((HB2.out.block B (Array.getElem?_eq_some_iff.1 HBX.out).1).trans HBX.out)
    have hC := twin_calls _ op v x gs a n cap w2 (Nat.le_refl _) (HF1.out.below HB2.out) (by have := HSZ.out; omega)
    go_wp2_with fail
    refine hC.mono ?_
    rintro e w3 ⟨ta1, tc1, rfl, hFR, b⟩
    have HB3 := Lib.hid (HB2.out.trans (b.mono HB2.out.size))
    have HFR := Lib.hid hFR
    clear hC hFR b k0 k1 k2 k3
    have hC := truthsR va vn vc vs w3 (HV1.out.below HB3.out) HVN.out (by have := HVB.out; omega)
    go_wp2_with fail
    refine hC.mono ?_
    rintro e w4 ⟨va4, vc4, rfl, rd4, b⟩
    have HB4 := Lib.hid (HB3.out.trans (b.mono HB3.out.size))
    have htb : Below w4.heap.size w4 (w4.alloc (.cells #[.int .i64 op, .int .i64 v, .int .i64 x, .slice ta1 n tc1] 26)) := (Below.refl _ _).alloc (Nat.le_refl _) _
    have htx := heap_alloc_new w4 (.cells #[.int .i64 op, .int .i64 v, .int .i64 x, .slice ta1 n tc1] 26)
    have HTF := Lib.hid ((HFR.out.keeps (Keeps.of_below b (Nat.le_refl _))).here.below htb)
    have HRD := Lib.hid (rd4.below htb)
    clear hC b rd4 HFR
    go_upto_region 4 with fail
    obtain ⟨w5, hw5⟩ : ∃ w5, w4.alloc (.cells #[.int .i64 op, .int .i64 v, .int .i64 x, .slice ta1 n tc1] 26) = w5 := ⟨_, rfl⟩
    obtain ⟨T, hT⟩ : ∃ T, Hid (w4.heap.size = T) := ⟨_, Lib.hid rfl⟩
    rw [hw5] at htb htx HTF HRD ⊢
    rw [hT.out] at htx ⊢
    have HTX := Lib.hid htx
    have HB5 := Lib.hid (HB4.out.trans (htb.mono HB4.out.size))
    have HE5 : Hid (Below w5.heap.size w5 w5) := Lib.hid (Below.refl _ _)
    clear htb htx hw5
    obtain ⟨c1, hc1⟩ : ∃ c1, chk2 vs (.mk op v x gs) = c1 := ⟨_, rfl⟩
    obtain ⟨t1, ht1⟩ : ∃ t1, (if c1 = 0 then evalF vs (.mk op v x gs) else 0) = t1 := ⟨_, rfl⟩
    have hC := Eval_calls op v x gs ta1 n tc1 vs va4 vn vc4 w5 HTF.out HRD.out
    rw [hc1, ht1] at hC
    have HC1 := Lib.hid hc1
    have HT1 := Lib.hid ht1
    clear hc1 ht1
    obtain ⟨⟨t0, t1', t2, t3⟩, _⟩ := cells4_of ((HE5.out.block T (Array.getElem?_eq_some_iff.1 HTX.out).1).trans HTX.out)
    go_wp2_with fail
    refine hC.mono ?_
    rintro e w6 ⟨rfl, g⟩
    have HB6 := Lib.hid (HB5.out.trans (g.below.mono HB5.out.size))
    have HE6 := Lib.hid (HE5.out.trans (g.below.mono HE5.out.size))
    clear hC g t0 t1' t2 t3
    have hC := Simplify_calls op v x gs ta1 n tc1 vs va4 vn vc4 w6 (HTF.out.below HE6.out) (HRD.out.below HE6.out) (by have := HSZ.out; omega)
    unfold SimplW at hC
    rw [HC1.out] at hC
    have HC := Lib.hid hC
    clear hC
    obtain ⟨⟨t0, t1', t2, t3⟩, _⟩ := cells4_of ((HE6.out.block T (Array.getElem?_eq_some_iff.1 HTX.out).1).trans HTX.out)
    go_wp2_with fail
    refine HC.out.mono ?_
    rintro e w7 ⟨gop, gv, gx, gss, ga, gn, gc, rfl, hre, hFR, b⟩
    have HRE := Lib.hid hre
    have HB7 := Lib.hid (HB6.out.trans (b.mono HB6.out.size))
    have HE7 := Lib.hid (HE6.out.trans (b.mono HE6.out.size))
    have hgb : Below w7.heap.size w7 (w7.alloc (.cells #[.int .i64 gop, .int .i64 gv, .int .i64 gx, .slice ga gn gc] 26)) := (Below.refl _ _).alloc (Nat.le_refl _) _
    have hgx := heap_alloc_new w7 (.cells #[.int .i64 gop, .int .i64 gv, .int .i64 gx, .slice ga gn gc] 26)
    have HGF := Lib.hid (hFR.keeps (Keeps.of_below hgb (Nat.le_refl _))).here
    clear HC hre hFR b t0 t1' t2 t3
    go_upto_region 6 with fail
    obtain ⟨w8, hw8⟩ : ∃ w8, w7.alloc (.cells #[.int .i64 gop, .int .i64 gv, .int .i64 gx, .slice ga gn gc] 26) = w8 := ⟨_, rfl⟩
    obtain ⟨G, hG⟩ : ∃ G, Hid (w7.heap.size = G) := ⟨_, Lib.hid rfl⟩
    rw [hw8] at hgb hgx HGF ⊢
    rw [hG.out] at hgx ⊢
    have HGX := Lib.hid hgx
    have HB8 := Lib.hid (HB7.out.trans (hgb.mono HB7.out.size))
    have HE8 := Lib.hid (HE7.out.trans (hgb.mono HE7.out.size))
    have HG8 : Hid (Below w8.heap.size w8 w8) := Lib.hid (Below.refl _ _)
    clear hgb hgx hw8
    have hX := fixed_calls w8
    go_wp2_with fail
    refine hX.mono ?_
    rintro e w9 ⟨rfl, b⟩
    have HB9 := Lib.hid (HB8.out.trans (b.mono HB8.out.size))
    have HE9 := Lib.hid (HE8.out.trans (b.mono HE8.out.size))
    have HG9 := Lib.hid (HG8.out.trans (b.mono HG8.out.size))
    clear hX b
    have hS := sameF_calls op v x gs ta1 n tc1 op v x gs a n cap w9 (HTF.out.below HE9.out) (HF1.out.below HB9.out)
    rw [sameB_self] at hS
    obtain ⟨⟨k0, k1, k2, k3⟩, _⟩ := cells4_of ((HB9.out.block B (Array.getElem?_eq_some_iff.1 HBX.out).1).trans HBX.out)
    obtain ⟨⟨t0, t1', t2, t3⟩, _⟩ := cells4_of ((HE9.out.block T (Array.getElem?_eq_some_iff.1 HTX.out).1).trans HTX.out)
    go_wp2_with fail
    refine hS.mono ?_
    rintro e w10 ⟨rfl, g⟩
    have HB10 := Lib.hid (HB9.out.trans (g.below.mono HB9.out.size))
    have HE10 := Lib.hid (HE9.out.trans (g.below.mono HE9.out.size))
    have HG10 := Lib.hid (HG9.out.trans (g.below.mono HG9.out.size))
    clear hS g k0 k1 k2 k3 t0 t1' t2 t3
    have hQ := equal_calls va4 va vn vc4 vc vs w10 (HRD.out.below HE10.out) (HV1.out.below HB10.out)
    go_wp2_with fail
    refine hQ.mono ?_
    rintro e w11 ⟨rfl, g⟩
    have HB11 := Lib.hid (HB10.out.trans (g.below _ |>.mono HB10.out.size))
    have HG11 := Lib.hid (HG10.out.trans (g.below _ |>.mono HG10.out.size))
    clear hQ g
    have hI := is_calls _ op v x gs a n cap w11 (Nat.le_refl _) (HF1.out.below HB11.out)
    obtain ⟨ib, hib⟩ : ∃ ib, isB (.mk op v x gs) = ib := ⟨_, rfl⟩
    rw [hib] at hI
    have HIB := Lib.hid hib
    clear hib
    obtain ⟨⟨k0, k1, k2, k3⟩, _⟩ := cells4_of ((HB11.out.block B (Array.getElem?_eq_some_iff.1 HBX.out).1).trans HBX.out)
    go_wp2_with fail
    refine hI.mono ?_
    rintro e w12 ⟨rfl, g⟩
    have HB12 := Lib.hid (HB11.out.trans (g.below.mono HB11.out.size))
    have HG12 := Lib.hid (HG11.out.trans (g.below.mono HG11.out.size))
    clear hI g k0 k1 k2 k3
    cases ib
    · have hc : c1 = 6 := by
        rcases chk2_cases vs (.mk op v x gs) with k | k
        · rw [(chk2_zero k).2] at HIB
          cases HIB.out
        · rw [← HC1.out]; exact k
      subst hc
      have ht : t1 = 0 := by have := HT1.out; rw [if_neg (by decide)] at this; exact this.symm
      subst ht
      have hre : cst 0 = .mk gop gv gx gss := by have := HRE.out; rw [if_neg (by decide)] at this; exact this
      have hS := sameF_calls gop gv gx gss ga gn gc 0 0 0 [] none 0 0 w12 (HGF.out.below HG12.out) (fitS_nil w12)
      rw [← hre, show sameB (cst 0) (.mk 0 0 0 []) = true from sameB_self _] at hS
      obtain ⟨⟨g0, g1, g2, g3⟩, _⟩ := cells4_of ((HG12.out.block G (Array.getElem?_eq_some_iff.1 HGX.out).1).trans HGX.out)
      clear hre
      go_wp2_with fail
      refine hS.mono ?_
      rintro e w14 ⟨rfl, g⟩
      have HB14 := Lib.hid (HB12.out.trans (g.below.mono HB12.out.size))
      have HBF := Lib.hid (HB0.out.trans (HB14.out.mono HB0.out.size))
      clear hS g g0 g1 g2 g3
      go_wp2_with fail
      go_ret
      exact ⟨rfl, HBF.out⟩
    · have hgo := good_list_calls vs va vn vc w12 (HV1.out.below HB12.out)
      obtain ⟨gl, hgl⟩ : ∃ gl, goodL vs = gl := ⟨_, rfl⟩
      rw [hgl] at hgo
      have HGL := Lib.hid hgl
      clear hgl
      go_wp2_with fail
      refine hgo.mono ?_
      rintro e w13 ⟨rfl, hw13⟩
      subst hw13
      clear hgo
      cases gl
      · have hc : c1 = 6 := by
          rcases chk2_cases vs (.mk op v x gs) with k | k
          · rw [(goodL_iff vs).2 (chk2_zero k).1] at HGL
            cases HGL.out
          · rw [← HC1.out]; exact k
        subst hc
        have ht : t1 = 0 := by have := HT1.out; rw [if_neg (by decide)] at this; exact this.symm
        subst ht
        have hre : cst 0 = .mk gop gv gx gss := by have := HRE.out; rw [if_neg (by decide)] at this; exact this
        have hS := sameF_calls gop gv gx gss ga gn gc 0 0 0 [] none 0 0 w13 (HGF.out.below HG12.out) (fitS_nil w13)
        rw [← hre, show sameB (cst 0) (.mk 0 0 0 []) = true from sameB_self _] at hS
        obtain ⟨⟨g0, g1, g2, g3⟩, _⟩ := cells4_of ((HG12.out.block G (Array.getElem?_eq_some_iff.1 HGX.out).1).trans HGX.out)
        clear hre
        go_wp2_with fail
        refine hS.mono ?_
        rintro e w14 ⟨rfl, g⟩
        have HB14 := Lib.hid (HB12.out.trans (g.below.mono HB12.out.size))
        have HBF := Lib.hid (HB0.out.trans (HB14.out.mono HB0.out.size))
        clear hS g g0 g1 g2 g3
        go_wp2_with fail
        go_ret
        exact ⟨rfl, HBF.out⟩
      · have hgood := (goodL_iff vs).1 HGL.out
        have hc : c1 = 0 := by rw [← HC1.out]; exact chk2_of hgood HIB.out
        subst hc
        have ht : evalF vs (.mk op v x gs) = t1 := by have := HT1.out; rw [if_pos rfl] at this; exact this
        have hre : simpF vs (.mk op v x gs) = .mk gop gv gx gss := by have := HRE.out; rw [if_pos rfl] at this; exact this
        have hEV : ∀ W, Below w13.heap.size w13 W → Calls Try.prog 18 #[.agg #[.int .i64 op, .int .i64 v, .int .i64 x, .slice a n cap], .slice va vn vc] W fun e w' => e = .returned (.int .i64 t1) ∧ Below W.heap.size W w' := fun W hb => by
          have hC := eva_at vs va vn vc _ (.mk op v x gs) (Nat.le_refl _) HIB.out (by have := HSZ.out; omega) op v x gs a n cap W rfl (HF1.out.below (HB12.out.trans (hb.mono HB12.out.size))) (HV1.out.below (HB12.out.trans (hb.mono HB12.out.size)))
          rw [ht] at hC
          exact hC
        have hSI : ∀ W, Below w13.heap.size w13 W → Calls Try.prog 19 #[.agg #[.int .i64 op, .int .i64 v, .int .i64 x, .slice a n cap], .slice va vn vc] W fun e w' => ∃ a9 c9, e = .returned (.agg #[.int .i64 gop, .int .i64 gv, .int .i64 gx, .slice a9 gn c9]) ∧ FitS w' gss a9 gn c9 ∧ Below W.heap.size W w' := fun W hb => by
          refine (sfy_at vs va vn vc hgood _ (.mk op v x gs) (Nat.le_refl _) HIB.out (by have := HSZ.out; omega) op v x gs a n cap W rfl (HF1.out.below (HB12.out.trans (hb.mono HB12.out.size))) (HV1.out.below (HB12.out.trans (hb.mono HB12.out.size)))).mono ?_
          rintro e w' ⟨o1, v1, x1, g1, a9, n9, c9, rfl, e9, hF9, b9⟩
          rw [hre] at e9
          cases e9
          have hn9 : gn = n9 := HGF.out.len.symm.trans hF9.here.len
          subst hn9
          exact ⟨a9, c9, rfl, hF9.here, b9⟩
        have HEV := Lib.hid hEV
        have HSI := Lib.hid hSI
        have hS2 : ∀ W a9 c9, Below w13.heap.size w13 W → FitS W gss a9 gn c9 → Calls Try.prog 14 #[.agg #[.int .i64 gop, .int .i64 gv, .int .i64 gx, .slice ga gn gc], .agg #[.int .i64 gop, .int .i64 gv, .int .i64 gx, .slice a9 gn c9]] W fun e w' => e = .returned (.bool true) ∧ Grows W w' := fun W a9 c9 hb h9 => by
          have hS := sameF_calls gop gv gx gss ga gn gc gop gv gx gss a9 gn c9 W (HGF.out.below (HG12.out.trans (hb.mono HG12.out.size))) h9
          rw [sameB_self] at hS
          exact hS
        have HS2 := Lib.hid hS2
        have HXB := Lib.hid ((HB12.out.block B (Array.getElem?_eq_some_iff.1 HBX.out).1).trans HBX.out)
        have HXG := Lib.hid ((HG12.out.block G (Array.getElem?_eq_some_iff.1 HGX.out).1).trans HGX.out)
        have HBL := Lib.hid (Array.getElem?_eq_some_iff.1 HXB.out).1
        have HGL2 := Lib.hid (Array.getElem?_eq_some_iff.1 HXG.out).1
        clear hEV hSI hS2 hgood ht hre
        obtain ⟨⟨k0, k1, k2, k3⟩, _⟩ := cells4_of ((HB12.out.block B (Array.getElem?_eq_some_iff.1 HBX.out).1).trans HBX.out)
        obtain ⟨⟨g0, g1, g2, g3⟩, _⟩ := cells4_of ((HG12.out.block G (Array.getElem?_eq_some_iff.1 HGX.out).1).trans HGX.out)
        go_upto_region 10 with fail
        go_region_held3 (fun W => W.cell? ⟨B, 0, none⟩ = some (.int .i64 op) ∧ W.cell? ⟨B, 1, none⟩ = some (.int .i64 v) ∧ W.cell? ⟨B, 2, none⟩ = some (.int .i64 x) ∧ W.cell? ⟨B, 3, none⟩ = some (.slice a n cap) ∧ W.cell? ⟨G, 0, none⟩ = some (.int .i64 gop) ∧ W.cell? ⟨G, 1, none⟩ = some (.int .i64 gv) ∧ W.cell? ⟨G, 2, none⟩ = some (.int .i64 gx) ∧ W.cell? ⟨G, 3, none⟩ = some (.slice ga gn gc)) (first | go_keep | exact ⟨by assumption, by assumption, by assumption, by assumption, by assumption, by assumption, by assumption, by assumption⟩) (first
          | (go_at_call 18; refine (HEV.out _ (by first | exact Below.refl _ _ | exact (Below.refl _ _).drew)).mono ?_; rintro e w14 ⟨rfl, b14⟩; have c14 : Below w13.heap.size w13 w14 := (by first | exact b14 | exact ((Below.refl _ _).drew).trans b14); have xb := cells4_of ((c14.block B HBL.out).trans HXB.out); have xg := cells4_of ((c14.block G HGL2.out).trans HXG.out); have p140 := xb.1.1; have r140 := xg.1.1; have p141 := xb.1.2.1; have r141 := xg.1.2.1; have p142 := xb.1.2.2.1; have r142 := xg.1.2.2.1; have p143 := xb.1.2.2.2; have r143 := xg.1.2.2.2; clear xb xg)
          | (go_at_call 19; refine (HSI.out w14 c14).mono ?_; rintro e w15 ⟨a9, c9, rfl, hF9, b15⟩; have c15 := c14.trans (b15.mono c14.size); have xb := cells4_of ((c15.block B HBL.out).trans HXB.out); have xg := cells4_of ((c15.block G HGL2.out).trans HXG.out); have p150 := xb.1.1; have r150 := xg.1.1; have p151 := xb.1.2.1; have r151 := xg.1.2.1; have p152 := xb.1.2.2.1; have r152 := xg.1.2.2.1; have p153 := xb.1.2.2.2; have r153 := xg.1.2.2.2; clear xb xg)
          | (go_at_call 14; refine (HS2.out w15 a9 c9 c15 hF9).mono ?_; rintro e w16 ⟨rfl, g16⟩; have c16 := c15.trans (g16.below.mono c15.size); have xb := cells4_of ((c16.block B HBL.out).trans HXB.out); have xg := cells4_of ((c16.block G HGL2.out).trans HXG.out); have p160 := xb.1.1; have r160 := xg.1.1; have p161 := xb.1.2.1; have r161 := xg.1.2.1; have p162 := xb.1.2.2.1; have r162 := xg.1.2.2.1; have p163 := xb.1.2.2.2; have r163 := xg.1.2.2.2; clear xb xg))
        have HBF := Lib.hid (HB0.out.trans ((HB12.out.trans (c16.mono HB12.out.size)).mono HB0.out.size))
        go_wp2_with fail
        go_ret
        exact ⟨rfl, HBF.out⟩
end Go.Proofs.Ytmdanfeilgeoaaa
