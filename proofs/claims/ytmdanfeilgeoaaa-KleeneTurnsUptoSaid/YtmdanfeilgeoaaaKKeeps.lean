/- gimletlaw14.KleeneKeeps answers true. Printed by wip/mkkeeps.py. -/
import Derived.Test.YtmdanfeilgeoaaaKSame
import Derived.Test.YtmdanfeilgeoaaaKMerged
import Derived.Test.YtmdanfeilgeoaaaKHelp
import Derived.BigQuiet
namespace Gim
open Go Go.RowKit Go.Sort Go.Proofs Go.Lib
theorem rd_nil (w : World) : Rd w .i64 none 0 0 [] := ⟨rfl, Nat.le_refl _, Nat.zero_le _, fun _ hj => absurd hj (Nat.not_lt_zero _)⟩
theorem chk2_nil {f : Fm} (h : nfF f) : chk2 [] f = 0 := chk2_of (fun _ ht => by cases ht) (nf_isB f h)
theorem mem_refVars {f : Fm} (h : isB f = true) (y : Int) : y ∈ refVars f ↔ y ∈ varsF f := by
  rw [← vars_law f h, (compact_law _ (List.pairwise_mergeSort (le := fun x y => decide (x ≤ y)) (fun a b c h1 h2 => by simp at *; omega) (fun a b => by simp; omega) _ |>.imp (fun h => by simpa using h))).2]
  rw [(List.mergeSort_perm _ _).mem_iff]
theorem anyEq_take {L : List Int} {t : Int} {q : Nat} (h : q < L.length) : (L.take (q + 1)).any (fun m => decide (m = t)) = ((L.take q).any (fun m => decide (m = t)) || decide (gt L q = t)) := by
  rw [take_snoc h, List.any_append]
  simp
end Gim
namespace Go.Proofs.Ytmdanfeilgeoaaa
open Go.RowKit Gim Go.Sort Go.Lib
theorem truthsR (ao : Option Addr) (n cap : Nat) (xs : List Int) (w : World) (h : Rd w .i64 ao n cap xs) (hnone : ao = none → n = 0 ∧ cap = 0) (hn : n ≤ 17592186044416) :
    Calls Try.prog 11 #[.slice ao n cap] w fun e w' => ∃ a' c', e = .returned (.slice a' n c') ∧ Rd w' .i64 a' n c' xs ∧ Below w.heap.size w w' := by
  refine (truths_calls ao n cap xs w h hnone hn).mono ?_
  rintro e w' ⟨v, rfl, hrow, hb⟩
  obtain ⟨a', c', rfl, rd⟩ := hrow.rd
  exact ⟨a', c', by rw [h.len], by rw [h.len] at rd; exact rd, hb⟩
theorem mergedR (ao bo : Option Addr) (n cap m cap2 : Nat) (xs ys ms : List Int) (l : Nat) (w : World) (h : Rd w .i64 ao n cap xs) (h2 : Rd w .i64 bo m cap2 ys) (hnone : bo = none → m = 0 ∧ cap2 = 0) (hn : n ≤ 1099511627775) (hm : m ≤ 1099511627775) (hms : mrgL xs ys = ms) (hl : ms.length = l) :
    Calls Try.prog 25 #[.slice ao n cap, .slice bo m cap2] w fun e w' => ∃ a' c', e = .returned (.slice a' l c') ∧ Rd w' .i64 a' l c' ms ∧ Below w.heap.size w w' := by
  refine (merged_calls ao bo n cap m cap2 xs ys w h h2 hnone hn hm).mono ?_
  rintro e w' ⟨v, rfl, hrow, hb⟩
  obtain ⟨a', c', rfl, rd⟩ := hrow.rd
  rw [hms, hl] at rd
  exact ⟨a', c', by rw [hms, hl], rd, hb⟩
set_option maxRecDepth 100000 in
set_option maxHeartbeats 16000000 in
theorem keeps_walk (op v x : Int) (gs : List Fm) (a : Option Addr) (n cap : Nat) (va : Option Addr) (vn vc : Nat) (vs : List Int) (ua : Option Addr) (un uc : Nat) (us : List Int) (w : World)
    (hF : FitS w gs a n cap) (hV : Rd w .i64 va vn vc vs) (hVn : va = none → vn = 0 ∧ vc = 0) (_hVw : ∀ x ∈ vs, (Lit.int .i64 x).wf = true) (hVb : vn ≤ 1048576) (hU : Rd w .i64 ua un uc us) (hUn : ua = none → un = 0 ∧ uc = 0) (_hUw : ∀ x ∈ us, (Lit.int .i64 x).wf = true) (hUb : un ≤ 1048576) :
    Calls Try.prog 7 #[.agg #[.int .i64 op, .int .i64 v, .int .i64 x, .slice a n cap], .slice va vn vc, .slice ua un uc] w fun e w' => e = .returned (.bool true) ∧ Below w.heap.size w w' := by
  have hb0 : Below w.heap.size w (w.alloc (.cells #[.int .i64 op, .int .i64 v, .int .i64 x, .slice a n cap] 26)) := ((Grows.refl _).alloc _).below
  have hbx := heap_alloc_new w (.cells #[.int .i64 op, .int .i64 v, .int .i64 x, .slice a n cap] 26)
  have hF1 := hF.below hb0
  have hV1 := hV.below hb0
  have hU1 := hU.below hb0
  obtain ⟨W1, hW1⟩ : ∃ W1, w.alloc (.cells #[.int .i64 op, .int .i64 v, .int .i64 x, .slice a n cap] 26) = W1 := ⟨_, rfl⟩
  rw [hW1] at hb0 hbx hF1 hV1 hU1
  have hGr := great_calls op v x gs a n cap W1 hF1
  have HB0 := Lib.hid hb0
  have HF1 := Lib.hid hF1
  have HV1 := Lib.hid hV1
  have HU1 := Lib.hid hU1
  have HVN := Lib.hid hVn
  have HUN := Lib.hid hUn
  have HVL := Lib.hid hV.len
  have HUL := Lib.hid hU.len
  have HBX := Lib.hid hbx
  have HVB := Lib.hid hVb
  have HUB := Lib.hid hUb
  have hvb : vn ≤ 9223372036854775807 := by omega
  have hub : un ≤ 9223372036854775807 := by omega
  clear hVb hUb
  obtain ⟨B, hB⟩ : ∃ B, Hid (w.heap.size = B) := ⟨_, Lib.hid rfl⟩
  obtain ⟨⟨k0, k1, k2, k3⟩, _⟩ := cells4_of hbx
  rw [hB.out] at HBX k0 k1 k2 k3
  clear hF hV hU hb0 hbx hF1 hV1 hU1 hVn hUn
  by_cases hr : restF (.mk op v x gs) 65536 < 0
  · rw [decide_eq_true hr] at hGr
    clear hr
    go_enter Try.func7, Try.ntmps7
    go_upto_region 1 with fail
    try rw [hW1]
    try rw [hB.out]
    clear hW1
    go_wp2_with fail
    refine hGr.mono ?_
    rintro e w2 ⟨rfl, g2⟩
    have hX := fixed_calls w2
    have HB2 := Lib.hid (HB0.out.trans (g2.below.mono HB0.out.size))
    clear hGr g2 k0 k1 k2 k3
    go_wp2_with fail
    refine hX.mono ?_
    rintro e w3 ⟨rfl, b3⟩
    have HB3 := Lib.hid (HB2.out.trans (b3.mono HB2.out.size))
    clear hX b3
    go_wp2_with fail
    go_ret
    exact ⟨rfl, HB3.out⟩
  · rw [decide_eq_false hr] at hGr
    have hsz := sz_small hr
    have HSZ := Lib.hid hsz
    clear hr hsz
    go_enter Try.func7, Try.ntmps7
    go_upto_region 1 with fail
    try rw [hW1]
    try rw [hB.out]
    clear hW1
    go_wp2_with fail
    refine hGr.mono ?_
    rintro e w2 ⟨rfl, g2⟩
    have hX := fixed_calls w2
    have HB2 := Lib.hid g2.below
    clear hGr g2 k0 k1 k2 k3
    go_wp2_with fail
    refine hX.mono ?_
    rintro e w3 ⟨rfl, b3⟩
    have HB3 := Lib.hid (HB2.out.trans (b3.mono HB2.out.size))
    clear hX b3
    -- Simplify of f by v
    obtain ⟨⟨k0, k1, k2, k3⟩, _⟩ := cells4_of ((HB3.out.block B (Array.getElem?_eq_some_iff.1 HBX.out).1).trans HBX.out)
    have hC := twin_calls _ op v x gs a n cap w3 (Nat.le_refl _) (HF1.out.below HB3.out) (by have := HSZ.out; omega)
    go_wp2_with fail
    refine hC.mono ?_
    rintro e w4 ⟨ta1, tc1, rfl, hFR, b⟩
    have HT1 := Lib.hid hFR
    have HB4 := Lib.hid (HB3.out.trans (b.mono HB3.out.size))
    clear hC hFR b k0 k1 k2 k3
    have hC := truthsR va vn vc vs w4 (HV1.out.below HB4.out) HVN.out (by have := HVB.out; omega)
    go_wp2_with fail
    refine hC.mono ?_
    rintro e w5 ⟨va5, vc5, rfl, rd5, b⟩
    obtain ⟨c1, hc1⟩ : ∃ c1, chk2 vs (.mk op v x gs) = c1 := ⟨_, rfl⟩
    have HB5 := Lib.hid (HB4.out.trans (b.mono HB4.out.size))
    clear hC
    have hC := Simplify_calls op v x gs ta1 n tc1 vs va5 vn vc5 w5 (HT1.out.keeps (Keeps.of_below b (Nat.le_refl _))).here rd5 (by have := HSZ.out; omega)
    unfold SimplW at hC
    rw [hc1] at hC
    have HC1 := Lib.hid hc1
    have HC := Lib.hid hC
    clear b hc1 rd5 hC
    go_wp2_with fail
    refine HC.out.mono ?_
    rintro e w6 ⟨gop, gv, gx, gss, ga, gn, gc, rfl, hre, hFR, b⟩
    have HRE := Lib.hid hre
    have HB6 := Lib.hid (HB5.out.trans (b.mono HB5.out.size))
    have hgb : Below w6.heap.size w6 (w6.alloc (.cells #[.int .i64 gop, .int .i64 gv, .int .i64 gx, .slice ga gn gc] 26)) := (Below.refl _ _).alloc (Nat.le_refl _) _
    have hgx := heap_alloc_new w6 (.cells #[.int .i64 gop, .int .i64 gv, .int .i64 gx, .slice ga gn gc] 26)
    have HGF0 := Lib.hid (hFR.keeps (Keeps.of_below hgb (Nat.le_refl _)))
    clear HC hre hFR b
    go_upto_region 6 with fail
    obtain ⟨w7, hw7⟩ : ∃ w7, w6.alloc (.cells #[.int .i64 gop, .int .i64 gv, .int .i64 gx, .slice ga gn gc] 26) = w7 := ⟨_, rfl⟩
    obtain ⟨G, hG⟩ : ∃ G, Hid (w6.heap.size = G) := ⟨_, Lib.hid rfl⟩
    rw [hw7] at hgb hgx HGF0 ⊢
    rw [hG.out] at hgx ⊢
    have HGX := Lib.hid hgx
    have HB7 := Lib.hid (HB6.out.trans (hgb.mono HB6.out.size))
    have HGB : Hid (Below w7.heap.size w7 w7) := Lib.hid (Below.refl _ _)
    have HGF := Lib.hid (show FitS w7 gss ga gn gc from HGF0.out.here)
    clear hgb hgx hw7 HGF0
    -- Eval of f by both
    obtain ⟨⟨k0, k1, k2, k3⟩, _⟩ := cells4_of ((HB7.out.block B (Array.getElem?_eq_some_iff.1 HBX.out).1).trans HBX.out)
    have hC := twin_calls _ op v x gs a n cap w7 (Nat.le_refl _) (HF1.out.below HB7.out) (by have := HSZ.out; omega)
    go_wp2_with fail
    refine hC.mono ?_
    rintro e w8 ⟨ta2, tc2, rfl, hFR, b⟩
    have HT2 := Lib.hid hFR
    have HB8 := Lib.hid (HB7.out.trans (b.mono HB7.out.size))
    have HG8 := Lib.hid b
    clear hC hFR b k0 k1 k2 k3
    obtain ⟨ms, HMS⟩ : ∃ ms, Hid (mrgL vs us = ms) := ⟨_, Lib.hid rfl⟩
    obtain ⟨ml, HML⟩ : ∃ ml, Hid (ms.length = ml) := ⟨_, Lib.hid rfl⟩
    have hC := mergedR va ua vn vc un uc vs us ms ml w8 (HV1.out.below HB8.out) (HU1.out.below HB8.out) HUN.out (by have := HVB.out; omega) (by have := HUB.out; omega) HMS.out HML.out
    go_wp2_with fail
    refine hC.mono ?_
    rintro e w9 ⟨va9, vc9, rfl, rd9, b⟩
    obtain ⟨c2, hc2⟩ : ∃ c2, chk2 ms (.mk op v x gs) = c2 := ⟨_, rfl⟩
    obtain ⟨t1, ht1⟩ : ∃ t1, (if c2 = 0 then evalF ms (.mk op v x gs) else 0) = t1 := ⟨_, rfl⟩
    have HT1 := Lib.hid ht1
    have HC2 := Lib.hid hc2
    have HB9 := Lib.hid (HB8.out.trans (b.mono HB8.out.size))
    have HG9 := Lib.hid (HG8.out.trans (b.mono HG8.out.size))
    clear hC
    have hC := Eval_calls op v x gs ta2 n tc2 ms va9 ml vc9 w9 (HT2.out.keeps (Keeps.of_below b (Nat.le_refl _))).here rd9
    rw [hc2, ht1] at hC
    clear b hc2 rd9 ht1
    go_wp2_with fail
    refine hC.mono ?_
    rintro e w10 ⟨rfl, g⟩
    have HB10 := Lib.hid (HB9.out.trans (g.below.mono HB9.out.size))
    have HG10 := Lib.hid (HG9.out.trans (g.below.mono HG9.out.size))
    clear hC g
    -- Eval of g by w: the region draws
    have hxG := (HG10.out.block G (Array.getElem?_eq_some_iff.1 HGX.out).1).trans HGX.out
    have hGlt := (Array.getElem?_eq_some_iff.1 hxG).1
    obtain ⟨⟨g0, g1, g2, g3⟩, _⟩ := cells4_of hxG
    have hT := truthsR ua un uc us w10.drew ((HU1.out.below HB10.out).drewN 1) HUN.out (by have := HUB.out; omega)
    obtain ⟨c3, hc3⟩ : ∃ c3, Hid (chk2 us (.mk gop gv gx gss) = c3) := ⟨_, Lib.hid rfl⟩
    obtain ⟨t2, ht2⟩ : ∃ t2, Hid ((if c3 = 0 then evalF us (.mk gop gv gx gss) else 0) = t2) := ⟨_, Lib.hid rfl⟩
    have HXG := Lib.hid hxG
    clear hxG
    go_upto_region 7 with fail
    have hE : ∀ W a7 c7, Below w10.heap.size w10 W → Rd W .i64 a7 un c7 us → Calls Try.prog 12 #[.agg #[.int .i64 gop, .int .i64 gv, .int .i64 gx, .slice ga gn gc], .slice a7 un c7] W fun e w' => e = .returned (.tuple #[.int .i64 t2, .int .i64 c3]) ∧ Grows W w' := fun W a7 c7 hb rd => by
      have hC := Eval_calls gop gv gx gss ga gn gc us a7 un c7 W (HGF.out.below (HG10.out.trans (hb.mono HG10.out.size))) rd
      rw [hc3.out, ht2.out] at hC
      exact hC
    have HE := Lib.hid hE
    have HGLT := Lib.hid hGlt
    clear hE hGlt
    go_region_held3 (fun W => W.cell? ⟨G, 0, none⟩ = some (.int .i64 gop) ∧ W.cell? ⟨G, 1, none⟩ = some (.int .i64 gv) ∧ W.cell? ⟨G, 2, none⟩ = some (.int .i64 gx) ∧ W.cell? ⟨G, 3, none⟩ = some (.slice ga gn gc)) (first | go_keep | exact ⟨by assumption, by assumption, by assumption, by assumption⟩) (first
      | (go_at_call 11; refine hT.mono ?_; rintro e w11 ⟨a7, c7, rfl, rd7, b7⟩; have c7b : Below w10.heap.size w10 w11 := (by first | exact b7 | exact ((Below.refl _ _).drew).trans b7); have x7 := cells4_of ((c7b.block G HGLT.out).trans HXG.out); have j0 := x7.1.1; have j1 := x7.1.2.1; have j2 := x7.1.2.2.1; have j3 := x7.1.2.2.2; clear x7)
      | (go_at_call 12; refine (HE.out w11 a7 c7 c7b rd7).mono ?_; rintro e w12 ⟨rfl, g12⟩; have x8 := cells4_of ((g12.below.block G (Nat.lt_of_lt_of_le HGLT.out c7b.size)).trans ((c7b.block G HGLT.out).trans HXG.out)); have l0 := x8.1.1; have l1 := x8.1.2.1; have l2 := x8.1.2.2.1; have l3 := x8.1.2.2.2; clear x8))
    have HB11 := Lib.hid (HB10.out.trans (c7b.mono HB10.out.size))
    have HG11 := Lib.hid (HG10.out.trans (c7b.mono HG10.out.size))
    have HB12 := Lib.hid (HB11.out.trans (g12.below.mono HB11.out.size))
    have HG12 := Lib.hid (HG11.out.trans (g12.below.mono HG11.out.size))
    clear g12 c7b b7 rd7 j0 j1 j2 j3 g0 g1 g2 g3 hT HXG HGLT l0 l1 l2 l3
    have hcc1 : c1 = 0 ∨ c1 = 6 := by rw [← HC1.out]; exact chk2_cases _ _
    have hcc2 : c2 = 0 ∨ c2 = 6 := by rw [← HC2.out]; exact chk2_cases _ _
    have hcc3 : c3 = 0 ∨ c3 = 6 := by rw [← hc3.out]; exact chk2_cases _ _
    rcases hcc1 with rfl | rfl
    · rcases hcc2 with rfl | rfl
      · rcases hcc3 with rfl | rfl
        · have hz := chk2_zero HC1.out
          have hz2 := chk2_zero HC2.out
          have hz3 := chk2_zero hc3.out
          have hre : simpF vs (.mk op v x gs) = .mk gop gv gx gss := by have := HRE.out; rw [if_pos rfl] at this; exact this
          have hnf : nfF (.mk gop gv gx gss) := by rw [← hre]; exact simp_nf hz.1 _ hz.2
          have ht : t2 = t1 := by
            have h1 := HT1.out
            have h2 := ht2.out
            rw [if_pos rfl] at h1 h2
            rw [← h1, ← h2, ← hre, ← HMS.out]
            exact eval_simp hz.1 hz3.1 (mrgL_val vs us) _ hz.2
          clear hc3 ht2
          subst ht
          have hsg : szF (.mk gop gv gx gss) ≤ szF (.mk op v x gs) := by rw [← hre]; exact simp_sz vs _ hz.2
          have HSG := Lib.hid (Nat.le_trans hsg HSZ.out)
          have HSS := Lib.hid hsg
          have HNF := Lib.hid hnf
          have HIS := Lib.hid hz.2
          have HRG := Lib.hid hre
          have HCF := Lib.hid (show chkE (.mk op v x gs) = 0 by unfold chkE; rw [if_pos hz.2])
          have HCG := Lib.hid (show chkE (.mk gop gv gx gss) = 0 by unfold chkE; rw [if_pos (nf_isB _ hnf)])
          clear hz hz2 hz3 hre hnf hsg
          obtain ⟨⟨g0, g1, g2, g3⟩, _⟩ := cells4_of ((HG12.out.block G (Array.getElem?_eq_some_iff.1 HGX.out).1).trans HGX.out)
          have hC := twin_calls _ gop gv gx gss ga gn gc w12 (Nat.le_refl _) (HGF.out.below HG12.out) (by have := HSG.out; omega)
          go_wp2_with fail
          refine hC.mono ?_
          rintro e w13 ⟨ta3, tc3, rfl, hFR, b⟩
          have HB13 := Lib.hid (HB12.out.trans (b.mono HB12.out.size))
          have HG13 := Lib.hid (HG12.out.trans (b.mono HG12.out.size))
          have HT3 := Lib.hid hFR
          clear hC b hFR g0 g1 g2 g3
          have hC := Simplify_calls gop gv gx gss ta3 gn tc3 [] none 0 0 w13 HT3.out.here (rd_nil w13) (by have := HSG.out; omega)
          unfold SimplW at hC
          rw [chk2_nil HNF.out] at hC
          have HC := Lib.hid hC
          clear hC
          go_wp2_with fail
          refine HC.out.mono ?_
          rintro e w14 ⟨aop, av, ax, ass, aa, an, ac, rfl, hre, hFR, b⟩
          have hre2 : simpF [] (.mk gop gv gx gss) = .mk aop av ax ass := by simpa only [if_true, eq_self_iff_true] using hre
          rw [simp_id _ HNF.out] at hre2
          clear hre
          cases hre2
          have HB14 := Lib.hid (HB13.out.trans (b.mono HB13.out.size))
          have HG14 := Lib.hid (HG13.out.trans (b.mono HG13.out.size))
          have hab : Below w14.heap.size w14 (w14.alloc (.cells #[.int .i64 gop, .int .i64 gv, .int .i64 gx, .slice aa an ac] 26)) := (Below.refl _ _).alloc (Nat.le_refl _) _
          have hax := heap_alloc_new w14 (.cells #[.int .i64 gop, .int .i64 gv, .int .i64 gx, .slice aa an ac] 26)
          have HAF0 := Lib.hid (hFR.keeps (Keeps.of_below hab (Nat.le_refl _)))
          clear HC hFR b
          go_upto_region 11 with fail
          obtain ⟨w15, hw15⟩ : ∃ w15, w14.alloc (.cells #[.int .i64 gop, .int .i64 gv, .int .i64 gx, .slice aa an ac] 26) = w15 := ⟨_, rfl⟩
          obtain ⟨AB, hAB⟩ : ∃ AB, Hid (w14.heap.size = AB) := ⟨_, Lib.hid rfl⟩
          rw [hw15] at hab hax HAF0 ⊢
          rw [hAB.out] at hax ⊢
          have HB15 := Lib.hid (HB14.out.trans (hab.mono HB14.out.size))
          have HG15 := Lib.hid (HG14.out.trans (hab.mono HG14.out.size))
          have hS := sameF_calls gop gv gx gss aa an ac gop gv gx gss ga gn gc w15 HAF0.out.here (HGF.out.below HG15.out)
          rw [sameB_self] at hS
          obtain ⟨⟨a0, a1, a2, a3⟩, _⟩ := cells4_of hax
          obtain ⟨⟨g0, g1, g2, g3⟩, _⟩ := cells4_of ((HG15.out.block G (Array.getElem?_eq_some_iff.1 HGX.out).1).trans HGX.out)
          clear hab hax hw15 HAF0
          go_wp2_with fail
          refine hS.mono ?_
          rintro e w16 ⟨rfl, g⟩
          have HB16 := Lib.hid (HB15.out.trans (g.below.mono HB15.out.size))
          have HG16 := Lib.hid (HG15.out.trans (g.below.mono HG15.out.size))
          clear hS g a0 a1 a2 a3 g0 g1 g2 g3
          obtain ⟨⟨k0, k1, k2, k3⟩, _⟩ := cells4_of ((HB16.out.block B (Array.getElem?_eq_some_iff.1 HBX.out).1).trans HBX.out)
          have hC := twin_calls _ op v x gs a n cap w16 (Nat.le_refl _) (HF1.out.below HB16.out) (by have := HSZ.out; omega)
          go_wp2_with fail
          refine hC.mono ?_
          rintro e w17 ⟨ta4, tc4, rfl, hFR, b⟩
          have HB17 := Lib.hid (HB16.out.trans (b.mono HB16.out.size))
          have HG17 := Lib.hid (HG16.out.trans (b.mono HG16.out.size))
          have HT4 := Lib.hid hFR
          clear hC b hFR k0 k1 k2 k3
          have hC := kSize_calls op v x gs ta4 n tc4 w17 HT4.out.here (by have := HSZ.out; omega)
          rw [HIS.out, if_pos rfl, HCF.out] at hC
          obtain ⟨sA, hsA⟩ : ∃ z, Hid (szF (.mk op v x gs) = z) := ⟨_, Lib.hid rfl⟩
          rw [hsA.out] at hC
          go_wp2_with fail
          refine hC.mono ?_
          rintro e w18 ⟨rfl, g⟩
          have HB18 := Lib.hid (HB17.out.trans (g.below.mono HB17.out.size))
          have HG18 := Lib.hid (HG17.out.trans (g.below.mono HG17.out.size))
          clear hC g
          obtain ⟨⟨g0, g1, g2, g3⟩, _⟩ := cells4_of ((HG18.out.block G (Array.getElem?_eq_some_iff.1 HGX.out).1).trans HGX.out)
          have hC := twin_calls _ gop gv gx gss ga gn gc w18 (Nat.le_refl _) (HGF.out.below HG18.out) (by have := HSG.out; omega)
          go_wp2_with fail
          refine hC.mono ?_
          rintro e w19 ⟨ta5, tc5, rfl, hFR, b⟩
          have HB19 := Lib.hid (HB18.out.trans (b.mono HB18.out.size))
          have HG19 := Lib.hid (HG18.out.trans (b.mono HG18.out.size))
          have HT5 := Lib.hid hFR
          clear hC b hFR g0 g1 g2 g3
          have hC := kSize_calls gop gv gx gss ta5 gn tc5 w19 HT5.out.here (by have := HSG.out; omega)
          rw [nf_isB _ HNF.out, if_pos rfl, HCG.out] at hC
          obtain ⟨sG, hsG⟩ : ∃ z, Hid (szF (.mk gop gv gx gss) = z) := ⟨_, Lib.hid rfl⟩
          rw [hsG.out] at hC
          go_wp2_with fail
          refine hC.mono ?_
          rintro e w20 ⟨rfl, g⟩
          have HB20 := Lib.hid (HB19.out.trans (g.below.mono HB19.out.size))
          have HG20 := Lib.hid (HG19.out.trans (g.below.mono HG19.out.size))
          clear hC g
          obtain ⟨⟨k0, k1, k2, k3⟩, _⟩ := cells4_of ((HB20.out.block B (Array.getElem?_eq_some_iff.1 HBX.out).1).trans HBX.out)
          have hC := twin_calls _ op v x gs a n cap w20 (Nat.le_refl _) (HF1.out.below HB20.out) (by have := HSZ.out; omega)
          go_wp2_with fail
          refine hC.mono ?_
          rintro e w21 ⟨ta6, tc6, rfl, hFR, b⟩
          have HB21 := Lib.hid (HB20.out.trans (b.mono HB20.out.size))
          have HG21 := Lib.hid (HG20.out.trans (b.mono HG20.out.size))
          have HT6 := Lib.hid hFR
          clear hC b hFR k0 k1 k2 k3
          have hC := kVars_calls op v x gs ta6 n tc6 w21 HT6.out.here (by have := HSZ.out; omega)
          rw [HCF.out] at hC
          have HC := Lib.hid hC
          clear hC
          go_wp2_with fail
          refine HC.out.mono ?_
          rintro e w22 ⟨Xa, Xc, XL, rfl, rd, hL, b⟩
          rw [HIS.out, if_pos rfl] at hL
          have HRX := Lib.hid rd
          have HLX := Lib.hid hL
          have HB22 := Lib.hid (HB21.out.trans (b.mono HB21.out.size))
          have HG22 := Lib.hid (HG21.out.trans (b.mono HG21.out.size))
          
          clear HC b rd hL
          obtain ⟨⟨g0, g1, g2, g3⟩, _⟩ := cells4_of ((HG22.out.block G (Array.getElem?_eq_some_iff.1 HGX.out).1).trans HGX.out)
          have hC := twin_calls _ gop gv gx gss ga gn gc w22 (Nat.le_refl _) (HGF.out.below HG22.out) (by have := HSG.out; omega)
          go_wp2_with fail
          refine hC.mono ?_
          rintro e w23 ⟨ta7, tc7, rfl, hFR, b⟩
          have HB23 := Lib.hid (HB22.out.trans (b.mono HB22.out.size))
          have HG23 := Lib.hid (HG22.out.trans (b.mono HG22.out.size))
          have HT7 := Lib.hid hFR
          have HX23 := Lib.hid b
          clear hC b hFR g0 g1 g2 g3
          have hC := kVars_calls gop gv gx gss ta7 gn tc7 w23 HT7.out.here (by have := HSG.out; omega)
          rw [HCG.out] at hC
          have HC := Lib.hid hC
          clear hC
          go_wp2_with fail
          refine HC.out.mono ?_
          rintro e w24 ⟨Ya, Yc, YL, rfl, rd, hL, b⟩
          rw [nf_isB _ HNF.out, if_pos rfl] at hL
          have HRY := Lib.hid rd
          have HLY := Lib.hid hL
          have HB24 := Lib.hid (HB23.out.trans (b.mono HB23.out.size))
          have HG24 := Lib.hid (HG23.out.trans (b.mono HG23.out.size))
          have HX24 := Lib.hid (HX23.out.trans (b.mono HX23.out.size))
          clear HC b rd hL
          have hba : ¬ ((sA : Nat) : Int) < ((sG : Nat) : Int) := by
            have := HSS.out
            rw [hsA.out, hsG.out] at this
            omega
          obtain ⟨yl, HYL⟩ : ∃ z, Hid (YL.length = z) := ⟨_, Lib.hid rfl⟩
          obtain ⟨xl, HXL⟩ : ∃ z, Hid (XL.length = z) := ⟨_, Lib.hid rfl⟩
          have HRXX := Lib.hid (HRX.out.below HX24.out)
          have HVX := Lib.hid (HV1.out.below HB24.out)
          rw [HYL.out] at HRY
          rw [HXL.out] at HRX HRXX
          have HBF := Lib.hid (HB0.out.trans (HB24.out.mono HB0.out.size))
          have hxb : xl ≤ 9223372036854775807 := by have := HRXX.out.le; have := HRXX.out.cap_le; unfold maxLen at this; omega
          have hyb : yl ≤ 9223372036854775807 := by have := HRY.out.le; have := HRY.out.cap_le; unfold maxLen at this; omega
          have HYS : Hid (∀ y ∈ YL, (XL.any fun m => decide (m = y)) = true ∧ 0 ≤ y ∧ valB vs y = 1) := Lib.hid fun y hy => by
            rw [HLY.out, mem_refVars (nf_isB _ HNF.out)] at hy
            have hv := simp_vars vs _ HIS.out y (by rw [HRG.out]; exact hy)
            refine ⟨?_, (vars_ok _ HIS.out y hv.1).1, hv.2⟩
            rw [HLX.out]
            exact List.any_eq_true.2 ⟨y, (mem_refVars HIS.out y).2 hv.1, by simp⟩
          try rw [HYL.out]
          try rw [HXL.out]
          go_wp2_with fail
          go_loopw [142] (fun i wr => ∃ (q : Nat), i = .int .i64 q ∧ q ≤ yl ∧ Grows w24 wr) (fun i _ => yl - (RowKit.intOf i).toNat)
          case atStart => exact ⟨0, rfl, Nat.zero_le _, Grows.refl _⟩
          case round =>
            obtain ⟨q, rfl, hq, hgr⟩ := hrel
            have HGRO := Lib.hid hgr
            by_cases hqn : q < yl
            · have hqn' : (q : Int) < yl := by omega
              obtain ⟨b1, o1, hya, hb1, hcl⟩ := (HRY.out.below hgr.below).cell q hqn
              subst hya
              have c0 := hcl q hqn
              obtain ⟨y, hy⟩ : ∃ y, gt YL q = y := ⟨_, rfl⟩
              have hmem : y ∈ YL := by
                rw [← hy, gt_lt (by have := HYL.out; omega)]
                exact List.getElem_mem _
              rw [hy] at c0
              have HY := Lib.hid (HYS.out y hmem)
              obtain ⟨WO, hWO⟩ : ∃ WO, WO = wr := ⟨_, rfl⟩
              subst hWO
              clear hcl hy hmem hb1 hgr
              go_wp2_with fail
              go_loopw [21, 148] (fun ff i ws => ∃ (p : Nat), i = .int .i64 p ∧ p ≤ xl ∧ ff = .bool ((XL.take p).any fun m => decide (m = y)) ∧ Grows WO ws) (fun _ i _ => xl - (RowKit.intOf i).toNat)
              case atStart => exact ⟨0, rfl, Nat.zero_le _, rfl, Grows.refl _⟩
              case round =>
                obtain ⟨p, rfl, hp, rfl, hgs⟩ := hrel
                have HGSI := Lib.hid hgs
                have HGSO := Lib.hid (HGRO.out.trans hgs)
                obtain ⟨ff, hff⟩ : ∃ ff, ((XL.take p).any fun m => decide (m = y)) = ff := ⟨_, rfl⟩
                by_cases hpn : p < xl
                · have hpn' : (p : Int) < xl := by omega
                  obtain ⟨b2, o2, hxa, hb2, hcl2⟩ := (HRXX.out.below HGSO.out.below).cell p hpn
                  subst hxa
                  have c1 := hcl2 p hpn
                  have hnx := anyEq_take (L := XL) (t := y) (q := p) (by have := HXL.out; omega)
                  obtain ⟨m, hm⟩ : ∃ m, gt XL p = m := ⟨_, rfl⟩
                  rw [hm] at c1 hnx
                  rw [hff] at hnx ⊢
                  have HNX := Lib.hid hnx
                  clear hcl2 hm hnx hb2 hff hgs
                  cases ff
                  · go_wp2_with fail
                    go_roundw
                    case rel => exact ⟨p + 1, by go_num, by omega, by rw [HNX.out]; simp [Bool.beq_eq_decide_eq], HGSI.out⟩
                    case measure => simp [RowKit.intOf]; omega
                  · go_wp2_with fail
                    go_roundw
                    case rel => exact ⟨p + 1, by go_num, by omega, by rw [HNX.out]; simp, HGSI.out⟩
                    case measure => simp [RowKit.intOf]; omega
                · obtain rfl : p = xl := by omega
                  have hft : ff = true := by
                    rw [← hff, List.take_of_length_le (by have := HXL.out; omega)]
                    exact HY.out.1
                  rw [hff]
                  subst hft
                  clear hff hgs
                  obtain ⟨Y, hY⟩ := Int.eq_ofNat_of_zero_le HY.out.2.1
                  subst hY
                  by_cases hYn : Y < vn
                  · have hYn' : (Y : Int) < vn := by omega
                    obtain ⟨b3, o3, hva, hb3, hcl3⟩ := (HVX.out.below HGSO.out.below).cell Y hYn
                    subst hva
                    have c2 := hcl3 Y hYn
                    have hv1 : gt vs Y = 1 := by
                      have h5 := HY.out.2.2
                      unfold valB at h5
                      rw [if_pos (by have := HVL.out; omega)] at h5
                      simpa using h5
                    rw [hv1] at c2
                    have HQ := Lib.hid (show q + 1 ≤ yl by omega)
                    clear hcl3 hv1 hb3 hba hxb
                    go_wp2_with fail
                    clear c2 c0 hYn hYn' hub hvb HYS HY
                    go_roundw
                    case rel =>
                      exact ⟨q + 1, by go_num, HQ.out, HGSO.out⟩
                    case measure => simp [RowKit.intOf]; omega
                  · have hYn' : ¬ (Y : Int) < vn := by omega
                    have HQ := Lib.hid (show q + 1 ≤ yl by omega)
                    clear hba hxb
                    go_wp2_with fail
                    clear c0 hYn hYn' hub hvb HYS HY
                    go_roundw
                    case rel =>
                      exact ⟨q + 1, by go_num, HQ.out, HGSO.out⟩
                    case measure => simp [RowKit.intOf]; omega
            · obtain rfl : q = yl := by omega
              have HBE := Lib.hid (HBF.out.trans (hgr.below.mono HBF.out.size))
              clear hgr
              go_wp2_with fail
              go_ret
              exact ⟨rfl, HBE.out⟩
        · have HBF := Lib.hid (HB0.out.trans (HB12.out.mono HB0.out.size))
          go_wp2_with fail
          go_ret
          exact ⟨rfl, HBF.out⟩
      · have HBF := Lib.hid (HB0.out.trans (HB12.out.mono HB0.out.size))
        go_wp2_with fail
        go_ret
        exact ⟨rfl, HBF.out⟩
    · have hre : cst 0 = .mk gop gv gx gss := by have := HRE.out; rw [if_neg (by decide)] at this; exact this
      have hS := sameF_calls gop gv gx gss ga gn gc 0 0 0 [] none 0 0 w12 (HGF.out.below HG12.out) (fitS_nil w12)
      rw [← hre, show sameB (cst 0) (.mk 0 0 0 []) = true from sameB_self _] at hS
      obtain ⟨⟨g0, g1, g2, g3⟩, _⟩ := cells4_of ((HG12.out.block G (Array.getElem?_eq_some_iff.1 HGX.out).1).trans HGX.out)
      clear hre
      go_wp2_with fail
      refine hS.mono ?_
      rintro e w13 ⟨rfl, g⟩
      have HB13 := Lib.hid (HB12.out.trans (g.below.mono HB12.out.size))
      have HBF := Lib.hid (HB0.out.trans (HB13.out.mono HB0.out.size))
      clear hS g g0 g1 g2 g3
      go_wp2_with fail
      go_ret
      exact ⟨rfl, HBF.out⟩
end Go.Proofs.Ytmdanfeilgeoaaa
