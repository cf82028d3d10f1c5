/- kleene.simple of And and Or; of any formula. Printed by wip/mksimple2.py. -/
import Derived.Test.YtmdanfeilgeoaaaKSimple
import Derived.Deep.CutRange
import Derived.Deep.CutBlock
namespace Gim
open Go Go.RowKit Go.Sort Go.Proofs Go.Lib
theorem c4 {w : World} {a : Addr} {p : Value} (h : w.cell? a = some p) : (w.cell? a).isSome = true := by rw [h]; rfl
theorem swap8 {t : TypeId} {w : World} {A B : Nat} (hne : A ≠ B) {p q r s p' q' r' s' : Value} (hA : w.heap[A]? = some (.cells #[p, q, r, s] t)) (hB : w.heap[B]? = some (.cells #[p', q', r', s'] t)) (W : World)
    (hW : W = ((((((((w.setCell ⟨A, 0, none⟩ p').setCell ⟨A, 1, none⟩ q').setCell ⟨A, 2, none⟩ r').setCell ⟨A, 3, none⟩ s').setCell ⟨B, 0, none⟩ p).setCell ⟨B, 1, none⟩ q).setCell ⟨B, 2, none⟩ r).setCell ⟨B, 3, none⟩ s)) :
    W.heap[A]? = some (.cells #[p', q', r', s'] t) ∧ W.heap[B]? = some (.cells #[p, q, r, s] t) ∧ W.heap.size = w.heap.size ∧ (∀ j, j ≠ A → j ≠ B → W.heap[j]? = w.heap[j]?) ∧ W.os = w.os ∧ W.tape = w.tape ∧ W.output = w.output := by
  obtain ⟨h1, g1⟩ := out4 hA p' q' r' s'
  obtain ⟨w1, hw1⟩ : ∃ w1, w1 = (((w.setCell ⟨A, 0, none⟩ p').setCell ⟨A, 1, none⟩ q').setCell ⟨A, 2, none⟩ r').setCell ⟨A, 3, none⟩ s' := ⟨_, rfl⟩
  rw [← hw1] at h1 g1 hW
  have hB1 := (g1.block B (Array.getElem?_eq_some_iff.1 hB).1 (fun e => hne (Option.some.inj e).symm)).trans hB
  obtain ⟨h2, g2⟩ := out4 hB1 p q r s
  rw [← hW] at h2 g2
  have hs1 : w1.heap.size = w.heap.size := by rw [hw1]; simp [World.setCell]
  have hs2 : W.heap.size = w1.heap.size := by rw [hW]; simp [World.setCell]
  refine ⟨(g2.block A (Array.getElem?_eq_some_iff.1 h1).1 (fun e => hne (Option.some.inj e))).trans h1, h2, hs2.trans hs1, fun j h1 h2 => ?_, g2.os.trans g1.os, g2.tape.trans g1.tape, g2.output.trans g1.output⟩
  by_cases hj : j < w.heap.size
  · exact (g2.block j (by omega) (fun e => h2 (Option.some.inj e))).trans (g1.block j hj (fun e => h1 (Option.some.inj e)))
  · rw [Array.getElem?_eq_none (by omega), Array.getElem?_eq_none (by omega)]
end Gim
namespace Go.Proofs.Ytmdanfeilgeoaaa
open Go.RowKit Gim Go.Sort Go.Lib
set_option maxRecDepth 100000 in
set_option maxHeartbeats 16000000 in
theorem simple_or (vs : List Int) (va : Option Addr) (vn vc : Nat) (v x : Int) (gs : List Fm) (a : Option Addr) (n cap : Nat) (w : World) (hF : FitS w gs a n cap) (hV : Rd w .i64 va vn vc vs) (hgood : goodB vs) (hL : isL gs = true) (hsz : szL gs ≤ 549755813888) (ih : ∀ f ∈ gs, SimpAt vs va vn vc f) :
    Calls Try.prog 31 #[.agg #[.int .i64 3, .int .i64 v, .int .i64 x, .slice a n cap], .slice va vn vc] w (Simped w (joinF 3 (simpL vs gs))) := by
  have hcm := hF.cap_le
  have hle := hF.le
  have hnb : n ≤ 9223372036854775807 := by unfold maxLen at hcm; omega
  have HLN := Lib.hid hF.len
  have HF := Lib.hid hF
  have HV := Lib.hid hV
  have HGOOD := Lib.hid hgood
  have HL := Lib.hid hL
  have HSZ := Lib.hid hsz
  have IH := Lib.hid ih
  have HK : Hid (keptV 3 = 0) := Lib.hid rfl
  have HO : Hid (outV 3 = 2) := Lib.hid rfl
  clear hF hV hgood hL hsz ih hcm
  obtain ⟨S0, hS0⟩ : ∃ S0, w.heap.size = S0 := ⟨_, rfl⟩
  have hb0 : Below w.heap.size w ((w.alloc (.cells #[.int .i64 3, .int .i64 v, .int .i64 x, .slice a n cap] 26)).alloc (.cells #[.int .i64 0, .int .i64 0, .int .i64 0, .slice none 0 0] 26)) := ((Below.refl _ _).alloc (Nat.le_refl _) _).alloc (by simp) _
  have hs0 : ((w.alloc (.cells #[.int .i64 3, .int .i64 v, .int .i64 x, .slice a n cap] 26)).alloc (.cells #[.int .i64 0, .int .i64 0, .int .i64 0, .slice none 0 0] 26)).heap.size = S0 + 2 := by simp [hS0]
  have hx0 : ((w.alloc (.cells #[.int .i64 3, .int .i64 v, .int .i64 x, .slice a n cap] 26)).alloc (.cells #[.int .i64 0, .int .i64 0, .int .i64 0, .slice none 0 0] 26)).heap[S0]? = some (.cells #[.int .i64 3, .int .i64 v, .int .i64 x, .slice a n cap] 26) := by rw [← hS0]; exact (heap_alloc_old _ _ (by simp)).trans (heap_alloc_new _ _)
  have hr0 : ((w.alloc (.cells #[.int .i64 3, .int .i64 v, .int .i64 x, .slice a n cap] 26)).alloc (.cells #[.int .i64 0, .int .i64 0, .int .i64 0, .slice none 0 0] 26)).heap[S0 + 1]? = some (.cells #[.int .i64 0, .int .i64 0, .int .i64 0, .slice none 0 0] 26) := by
    have := heap_alloc_new (w.alloc (.cells #[.int .i64 3, .int .i64 v, .int .i64 x, .slice a n cap] 26)) (.cells #[.int .i64 0, .int .i64 0, .int .i64 0, .slice none 0 0] 26)
    rw [World.size_alloc, hS0] at this
    exact this
  go_enter Try.func31, Try.ntmps31
  go_upto_region 1 with fail
  obtain ⟨w0, hw0⟩ : ∃ w0, ((w.alloc (.cells #[.int .i64 3, .int .i64 v, .int .i64 x, .slice a n cap] 26)).alloc (.cells #[.int .i64 0, .int .i64 0, .int .i64 0, .slice none 0 0] 26)) = w0 := ⟨_, rfl⟩
  rw [hw0] at hb0 hs0 hx0 hr0 ⊢
  try rw [hS0]
  clear hw0
  obtain ⟨⟨cx0, cx1, cx2, cx3⟩, _⟩ := cells4_of hx0
  have HX0 := Lib.hid hx0
  have HR0 := Lib.hid hr0
  have HB0 := Lib.hid hb0
  have HS00 := Lib.hid hS0
  have HS0 := Lib.hid hs0
  clear hx0 hr0 hb0 hs0 hS0
  go_wp2_with fail
  refine (constant_calls 0 w0).mono ?_
  rintro e w1 ⟨rfl, g1⟩
  have n6 := heap_alloc_new w1 (.cells #[.int .i64 0, .int .i64 0, .int .i64 0, .slice none 0 0] 26)
  have b6 : Below w0.heap.size w0 (w1.alloc (.cells #[.int .i64 0, .int .i64 0, .int .i64 0, .slice none 0 0] 26)) := (g1.alloc _).below
  have hs6 := g1.below.size
  go_upto_region 17 with fail
  obtain ⟨B6, hB6⟩ : ∃ B6, w1.heap.size = B6 := ⟨_, rfl⟩
  obtain ⟨w2, hw2⟩ : ∃ w2, w1.alloc (.cells #[.int .i64 0, .int .i64 0, .int .i64 0, .slice none 0 0] 26) = w2 := ⟨_, rfl⟩
  rw [hw2] at n6 b6 ⊢
  rw [hB6] at n6 hs6 ⊢
  clear hw2 hB6 g1
  go_wp2_with fail
  refine (constant_calls 2 w2).mono ?_
  rintro e w3 ⟨rfl, g3⟩
  have n7 := heap_alloc_new w3 (.cells #[.int .i64 0, .int .i64 2, .int .i64 0, .slice none 0 0] 26)
  have b7 : Below w2.heap.size w2 (w3.alloc (.cells #[.int .i64 0, .int .i64 2, .int .i64 0, .slice none 0 0] 26)) := (g3.alloc _).below
  have hs7 := g3.below.size
  go_upto_region 18 with fail
  obtain ⟨B7, hB7⟩ : ∃ B7, w3.heap.size = B7 := ⟨_, rfl⟩
  obtain ⟨w4, hw4⟩ : ∃ w4, w3.alloc (.cells #[.int .i64 0, .int .i64 2, .int .i64 0, .slice none 0 0] 26) = w4 := ⟨_, rfl⟩
  rw [hw4] at n7 b7 ⊢
  rw [hB7] at n7 hs7 ⊢
  clear hw4 hB7 g3
  have n6' := (b7.block _ (Array.getElem?_eq_some_iff.1 n6).1).trans n6
  have b04 : Below w0.heap.size w0 w4 := b6.trans (b7.mono b6.size)
  have hB67 : B6 < B7 := Nat.lt_of_lt_of_le (Array.getElem?_eq_some_iff.1 n6).1 hs7
  have hSB6 : S0 + 1 < B6 := by have := HS0.out; omega
  have hx4 := (b04.block S0 (by have := HS0.out; omega)).trans HX0.out
  have hr4 := (b04.block (S0 + 1) (by have := HS0.out; omega)).trans HR0.out
  have hb4 := HB0.out.trans (b04.mono HB0.out.size)
  have hl7 : B7 < w4.heap.size := (Array.getElem?_eq_some_iff.1 n7).1
  clear n6 b6 b7 b04 hs6 hs7 cx0 cx1 cx2 cx3
  obtain ⟨⟨d0, d1, d2, d3⟩, _⟩ := cells4_of hx4
  have HX5 := Lib.hid hx4
  go_upto_region 20 with fail
  obtain ⟨w5, hw5⟩ : ∃ w5, w4 = w5 := ⟨_, rfl⟩
  have hx5 := hx4
  have hr5 := hr4
  have hb5 := hb4
  have hl5 := hl7
  have k6 := n6'
  have k7 := n7
  clear d0 d1 d2 d3 HX5 n6' n7 hx4 hr4 hb4 hl7
  rw [hw5] at hx5 hr5 hb5 hl5 k6 k7 ⊢
  clear hw5
  obtain ⟨⟨d0, d1, d2, d3⟩, _⟩ := cells4_of hx5
  have HX5 := Lib.hid hx5
  have HR5 := Lib.hid hr5
  have HB5 := Lib.hid hb5
  have HL5 := Lib.hid hl5
  have K6 := Lib.hid k6
  have K7 := Lib.hid k7
  have HB67 := Lib.hid hB67
  have HSB6 := Lib.hid hSB6
  have HNF := Lib.hid (simpL_nf HGOOD.out gs HL.out)
  clear hx5 hr5 hb5 hl5 k6 k7 hB67 hSB6
  go_wp2_with fail
  go_loopw [8, 77] (fun vv i wr => ∃ (q : Nat) (cs : List N4), i = .int .i64 q ∧ q ≤ n ∧ Row4 wr w5.heap.size vv cs ∧ TwL w5.heap.size wr vv.ownBlock cs (flK 3 (simpL vs (gs.take q))) ∧ Below w5.heap.size w5 wr) (fun _ i _ => n - (RowKit.intOf i).toNat)
  case atStart => exact ⟨0, [], rfl, Nat.zero_le _, Row4.nil _ _, TwL.nil _ _ _, Below.refl _ _⟩
  case round =>
    obtain ⟨q, cs, rfl, hq, hrow, htw, hbr⟩ := hrel
    by_cases hqn : q < n
    · have hqn' : (q : Int) < n := by omega
      have hbw := HB5.out.trans (hbr.mono HB5.out.size)
      obtain ⟨b, o, op1, v1, x1, bs, a1, n1, cap1, ha, hb, hel, c0, c1, c2, c3, hF2⟩ := (HF.out.below hbw).elem q hqn
      have hmem := List.mem_of_getElem? hel
      have hbR : Below wr.heap.size wr (wr.alloc (.cells #[.int .i64 op1, .int .i64 v1, .int .i64 x1, .slice a1 n1 cap1] 26)) := (Below.refl _ _).alloc (Nat.le_refl _) _
      have hxR := heap_alloc_new wr (.cells #[.int .i64 op1, .int .i64 v1, .int .i64 x1, .slice a1 n1 cap1] 26)
      have hC := IH.out _ hmem op1 v1 x1 bs a1 n1 cap1 (wr.alloc (.cells #[.int .i64 op1, .int .i64 v1, .int .i64 x1, .slice a1 n1 cap1] 26)) rfl (hF2.below hbR) (HV.out.below (hbw.trans (hbR.mono hbw.size)))
      have hnfe : nfF (simpF vs (.mk op1 v1 x1 bs)) := simp_nf HGOOD.out _ ((isL_iff _).1 HL.out _ hmem)
      have htk := simpL_take vs gs q _ hel
      have hszq : szL (simpL vs (gs.take (q + 1))) ≤ 549755813888 := by
        have h1 := simpL_sz vs _ (isL_take HL.out (q + 1))
        have h2 := szL_take_le gs (q + 1)
        have := HSZ.out
        omega
      rw [htk] at hszq
      have hRlt : wr.heap.size < (wr.alloc (.cells #[.int .i64 op1, .int .i64 v1, .int .i64 x1, .slice a1 n1 cap1] 26)).heap.size := by simp
      have hcsl : cs.length ≤ szL (simpL vs (gs.take q)) := by rw [htw.len]; exact flK_len _ _
      obtain ⟨rf, hrf⟩ : ∃ rf, simpF vs (.mk op1 v1 x1 bs) = rf := ⟨_, rfl⟩
      rw [hrf] at hC hnfe htk hszq
      have HNFE := Lib.hid hnfe
      have HTK := Lib.hid htk
      have HSQ := Lib.hid hszq
      have HCL := Lib.hid hcsl
      have HTW := Lib.hid htw
      have HROW := Lib.hid hrow
      have HBR := Lib.hid hbr
      have HBW := Lib.hid hbw
      subst ha
      clear hmem hel hF2 hrf hnfe htk hszq hcsl htw hrow hbr hbw
      go_upto_region 24 with fail
      obtain ⟨R, hR⟩ : ∃ R, wr.heap.size = R := ⟨_, rfl⟩
      obtain ⟨wA, hwA⟩ : ∃ wA, wr.alloc (.cells #[.int .i64 op1, .int .i64 v1, .int .i64 x1, .slice a1 n1 cap1] 26) = wA := ⟨_, rfl⟩
      rw [hwA] at hC hbR hxR hRlt ⊢
      have hC2 := hC
      rw [hR] at hxR hRlt ⊢
      have HBA := Lib.hid hbR
      have HRQ := Lib.hid hR
      obtain ⟨⟨e0, e1, e2, e3⟩, _⟩ := cells4_of hxR
      have HXR := Lib.hid hxR
      have HRLT := Lib.hid hRlt
      clear hC hwA hR hbR hxR hRlt c0 c1 c2 c3
      go_wp2_with fail
      refine hC2.mono ?_
      rintro e w6 ⟨op, vv, xx, ss, sa, sn, sc, rfl, hre, hFR, hb6⟩
      have hx6 := (hb6.block _ HRLT.out).trans HXR.out
      obtain ⟨⟨y0, y1, y2, y3⟩, f0, f1, f2, f3⟩ := cells4_of hx6
      have HRE := Lib.hid hre
      have HFR := Lib.hid hFR
      have HB6 := Lib.hid hb6
      have HX6 := Lib.hid hx6
      clear hC2 e0 e1 e2 e3 hre hFR hb6 hx6
      go_upto_region 25 with fail
      obtain ⟨h7, g7⟩ := out4 HX6.out (.int .i64 op) (.int .i64 vv) (.int .i64 xx) (.slice sa sn sc)
      obtain ⟨w7, hw7⟩ : ∃ w7, Hid (w7 = (((w6.setCell ⟨R, 0, none⟩ (.int .i64 op)).setCell ⟨R, 1, none⟩ (.int .i64 vv)).setCell ⟨R, 2, none⟩ (.int .i64 xx)).setCell ⟨R, 3, none⟩ (.slice sa sn sc)) := ⟨_, Lib.hid rfl⟩
      rw [← hw7.out] at h7 g7 ⊢
      have hR := HRQ.out
      have hb67 : Below wr.heap.size wr w6 := HBA.out.trans (HB6.out.mono HBA.out.size)
      have hb7 : Below wr.heap.size wr w7 := hb67.grown g7 hb67.size (fun j e => by have := Option.some.inj e; omega)
      have HB7 := Lib.hid hb7
      have HFR7 := Lib.hid (HFR.out.keeps (Keeps.of_grown g7 (Nat.le_refl _) (fun j e => by have := Option.some.inj e; have := HRLT.out; omega)))
      have HBW7 := Lib.hid (HBR.out.trans (hb7.mono HBR.out.size))
      have hrow7 := HROW.out.stays hb7
      have HTW7 := Lib.hid (HTW.out.below hb7)
      have HROW7 := Lib.hid hrow7
      have hsz7 : w5.heap.size ≤ w7.heap.size := HBW7.out.size
      have HH7 := Lib.hid h7
      obtain ⟨⟨e0, e1, e2, e3⟩, _⟩ := cells4_of h7
      obtain ⟨⟨d0', d1', d2', d3'⟩, _⟩ := cells4_of ((HBW7.out.block S0 (by have := HL5.out; have := HB67.out; have := HSB6.out; omega)).trans HX5.out)
      have HA7 := Lib.hid (show wA.heap.size ≤ w7.heap.size from Nat.le_trans HB6.out.size g7.size)
      clear hR hb67 hb7 h7 g7 hw7 y0 y1 y2 y3 f0 f1 f2 f3
      have hownlt : ∀ j, u8.ownBlock = some j → j < wA.heap.size := fun j hj => by have := (HROW.out.lt j hj).2; have := HBA.out.size; omega
      have HOWN := Lib.hid hownlt
      have HAW := Lib.hid (show w5.heap.size ≤ wA.heap.size from Nat.le_trans HBR.out.size HBA.out.size)
      clear hownlt
      by_cases ho : op = 3
      · subst ho
        have hnf2 : nfF (.mk 3 vv xx ss) := by rw [← HRE.out]; exact HNFE.out
        obtain ⟨hsh, _⟩ := nf_ar hnf2
        have hss2 : 2 ≤ ss.length := by rcases hsh with k | k | k | k <;> omega
        have hssn : ss.length = sn := HFR7.out.here.len
        have hssz : ss.length ≤ szF (.mk 3 vv xx ss) := by
          have := fm_len ss
          simp only [szF]
          omega
        obtain ⟨b2, o2, cs2, ha2, hb2, hcl, hcell, hsub⟩ := HFR7.out.elems (by omega)
        subst ha2
        have hroom : cs.length + sn < 1099511627776 := by
          have := HSQ.out
          rw [HRE.out, szL_app] at this
          simp only [szL] at this
          have := HCL.out
          omega
        have HT8 := Lib.hid (HTW7.out.app (show TwL w5.heap.size w7 u8.ownBlock cs2 ss from ⟨by rw [hcl, hssn], fun i c f h1 h2 => by
          obtain ⟨bs2, e2, hF2⟩ := hsub i c f h1 h2
          exact ⟨bs2, wA.heap.size, w6.heap.size, e2, HAW.out, hF2, fun j hj => .inl (HOWN.out j hj)⟩⟩))
        have HCE := Lib.hid hcell
        have hsnb : sn ≤ 9223372036854775807 := by omega
        clear hnf2 hsh hssz hsub hcell hss2 hb2
        go_wp2_with (at_builtin; refine append4s w7 rfl _ _ rfl w5.heap.size u8 cs rfl hrow7 b2 o2 sn sc cs2 rfl hcl HCE.out hroom hsz7 ?_; intro v' w8 hrow8 hgrow8 hown8)
        have hb8 : Below w5.heap.size w5 w8 := HBW7.out.grown hgrow8 hsz7 (fun j hj => (HROW7.out.lt j hj).1)
        have ht8 := HT8.out.grown hgrow8 hown8
        have HT9 := Lib.hid (show TwL w5.heap.size w8 v'.ownBlock (cs ++ cs2) (flK 3 (simpL vs (gs.take (q + 1)))) by
          rw [HTK.out, flK_snoc, HRE.out, if_pos (show opF (.mk 3 vv xx ss) = 3 from rfl)]
          exact ht8)
        clear hgrow8 hown8 hrow7 ht8
        go_wp2_with fail
        go_roundw
        case rel => exact ⟨q + 1, _, by go_num, by omega, hrow8, HT9.out, hb8⟩
        case measure => simp [RowKit.intOf]; omega
      · have ho' : (op == 3) = false := beq_eq_false_iff_ne.2 ho
        have hC := ord_calls op vv xx ss sa sn sc 0 0 0 [] none 0 0 w7 HFR7.out.here (fitS_nil w7)
        obtain ⟨r, hr⟩ : ∃ r, ordF (.mk op vv xx ss) (.mk 0 0 0 []) = r := ⟨_, rfl⟩
        rw [hr] at hC
        have HRR := Lib.hid (show ordF rf (cst (keptV 3)) = r by rw [HRE.out, HK.out]; exact hr)
        have HOP := Lib.hid (show opF rf ≠ 3 by rw [HRE.out]; exact ho)
        obtain ⟨⟨m0, m1, m2, m3⟩, _⟩ := cells4_of ((HBW7.out.block B6 (by have := HL5.out; have := HB67.out; omega)).trans K6.out)
        clear hr
        go_wp2_with fail
        refine hC.mono ?_
        rintro e w8 ⟨rfl, g8⟩
        have hb78 := g8.below
        have hb8 := HBW7.out.trans (hb78.mono hsz7)
        have hrow8 := HROW7.out.stays hb78
        have ht8 := HTW7.out.below hb78
        have HB8 := Lib.hid hb8
        have HROW8 := Lib.hid hrow8
        have HT8 := Lib.hid ht8
        have HFR8 := Lib.hid (HFR7.out.keeps (Keeps.of_below hb78 HFR7.out.top))
        have HH8 := Lib.hid ((hb78.block _ (Array.getElem?_eq_some_iff.1 HH7.out).1).trans HH7.out)
        clear hb78 g8 hC hrow7 e0 e1 e2 e3 d0' d1' d2' d3' m0 m1 m2 m3 ht8
        by_cases hr0 : r = 0
        · subst hr0
          have HT9 := Lib.hid (show TwL w5.heap.size w8 u8.ownBlock cs (flK 3 (simpL vs (gs.take (q + 1)))) by
            rw [HTK.out, flK_snoc, if_neg HOP.out, if_pos HRR.out, List.append_nil]
            exact HT8.out)
          clear hrow8 hb8
          go_wp2_with fail
          go_roundw
          case rel => exact ⟨q + 1, _, by go_num, by omega, HROW8.out, HT9.out, HB8.out⟩
          case measure => simp [RowKit.intOf]; omega
        · have hr0' : (r != 0) = true := by simpa using hr0
          have hroom : cs.length < 1099511627776 := by
            have := HSQ.out
            rw [szL_app] at this
            have := HCL.out
            omega
          have hsz8 := hb8.size
          have HTS := Lib.hid (HT8.out.snoc (show Tw w5.heap.size w8 u8.ownBlock (op, vv, xx, (sa, sn, sc)) (.mk op vv xx ss) from ⟨ss, wA.heap.size, w6.heap.size, rfl, HAW.out, HFR8.out, fun j hj => .inl (HOWN.out j hj)⟩))
          obtain ⟨⟨e0, e1, e2, e3⟩, _⟩ := cells4_of HH8.out
          clear hb8
          go_wp2_with (at_builtin; refine append4_at w8 rfl _ _ rfl w5.heap.size u8 cs rfl hrow8 (op, vv, xx, (sa, sn, sc)) rfl hroom hsz8 ?_; intro v' w9 hrow9 hgrow9 hown9)
          have hb9 : Below w5.heap.size w5 w9 := HB8.out.grown hgrow9 hsz8 (fun j hj => (HROW8.out.lt j hj).1)
          have ht9 := HTS.out.grown hgrow9 hown9
          have HT9 := Lib.hid (show TwL w5.heap.size w9 v'.ownBlock (cs ++ [(op, vv, xx, (sa, sn, sc))]) (flK 3 (simpL vs (gs.take (q + 1)))) by
            rw [HTK.out, flK_snoc, if_neg HOP.out, if_neg (by rw [HRR.out]; exact hr0), HRE.out]
            exact ht9)
          clear hgrow9 hown9 hrow8 ht9
          go_wp2_with fail
          go_roundw
          case rel => exact ⟨q + 1, _, by go_num, by omega, hrow9, HT9.out, hb9⟩
          case measure => simp [RowKit.intOf]; omega
    · obtain rfl : q = n := by omega
      rw [List.take_of_length_le (by rw [HLN.out]; exact Nat.le_refl _)] at htw
      have hflk : flK 3 (simpL vs gs) = flF 3 (simpL vs gs) := flK_flF (by omega) _ HNF.out
      rw [hflk] at htw
      have hcsl : cs.length < 4611686018427387904 := by
        have h1 := htw.len
        have h2 := flK_len 3 (simpL vs gs)
        have h3 := simpL_sz vs gs HL.out
        have := HSZ.out
        rw [hflk] at h2
        omega
      have hS := sortV_calls w5.heap.size u8 cs _ wr hrow htw hcsl
      have HBR := Lib.hid hbr
      have HOWN := Lib.hid (fun j hj => (hrow.lt j hj).1)
      have HJ := Lib.hid (fun s hu hm => join_of (op := 3) (by omega) (l := simpL vs gs) (s := s) HNF.out hu hm)
      clear hflk hcsl htw hrow hbr
      go_wp2_with fail
      refine hS.mono ?_
      rintro e w6 ⟨cs6, fs6, rfl, g6, hrow6, ht6, _, hm6, hp6⟩
      have hb6 := HBR.out.grown g6 HBR.out.size HOWN.out
      have hC := compactV_calls w5.heap.size u8 cs6 fs6 w6 hrow6 ht6 hp6
      have HB6 := Lib.hid hb6
      have HM6 := Lib.hid hm6
      clear hS g6 hrow6 ht6 hp6 hb6 hm6
      go_wp2_with fail
      refine hC.mono ?_
      rintro e w7 ⟨v7, cs7, fs7, rfl, hv7, g7, hrow7, ht7, hu7, hm7⟩
      have hb7 := HB6.out.grown g7 HB6.out.size HOWN.out
      rw [← hv7] at ht7
      have hj := HJ.out fs7 hu7 (fun k => (hm7 k).trans (HM6.out k))
      rw [HO.out] at hj
      have hK := containsV_calls w5.heap.size B7 2 v7 cs7 fs7 w7 hrow7 ht7 ((hb7.block B7 HL5.out).trans K7.out)
      obtain ⟨ca, hca⟩ : ∃ ca, (fs7.any fun p => decide (ordF p (cst 2) = 0)) = ca := ⟨_, rfl⟩
      rw [hca] at hj hK
      have HJJ := Lib.hid hj
      have HB7 := Lib.hid hb7
      have HROW7 := Lib.hid hrow7
      have HT7 := Lib.hid ht7
      have HOWN7 := Lib.hid (show ∀ j, v7.ownBlock = some j → w5.heap.size ≤ j from fun j hj => (hrow7.lt j hj).1)
      clear hC hj hca hb7 hm7 hu7 g7 ht7 hrow7 HJ HM6
      go_wp2_with fail
      refine hK.mono ?_
      rintro e w8 ⟨rfl, b8⟩
      have hb8 := HB7.out.trans (b8.mono HB7.out.size)
      have hrow8 := HROW7.out.stays b8
      have ht8 := HT7.out.below b8
      have HR8 := Lib.hid ((hb8.block (S0 + 1) (by have := HL5.out; have := HB67.out; have := HSB6.out; omega)).trans HR5.out)
      have HX8 := Lib.hid ((hb8.block S0 (by have := HL5.out; have := HB67.out; have := HSB6.out; omega)).trans HX5.out)
      have HK6 := Lib.hid ((hb8.block B6 (by have := HL5.out; have := HB67.out; omega)).trans K6.out)
      have HK7 := Lib.hid ((hb8.block B7 HL5.out).trans K7.out)
      have HBF := Lib.hid (HB5.out.trans (hb8.mono HB5.out.size))
      have HN8 := Lib.hid hb8.size
      have HROW8 := Lib.hid hrow8
      have HT8 := Lib.hid ht8
      obtain ⟨⟨t0, t1, t2, t3⟩, _⟩ := cells4_of HK7.out
      obtain ⟨⟨m0, m1, m2, m3⟩, _⟩ := cells4_of HK6.out
      obtain ⟨⟨d0, d1, d2, d3⟩, _⟩ := cells4_of HX8.out
      clear hb8 b8 hK hrow8 ht8 HROW7 HT7 HB7
      cases ca
      · rw [if_neg (by simp)] at HJJ
        rcases row4_cases HROW8.out with ⟨hv, rfl⟩ | ⟨g, cap7, hv, hgN, hRW⟩
        · subst hv
          have hl : fs7.length = 0 := by rw [← HT8.out.len]; rfl
          obtain rfl : fs7 = [] := List.eq_nil_of_length_eq_zero hl
          clear hl
          obtain ⟨⟨r0, r1, r2, r3⟩, z0, z1, z2, z3⟩ := cells4_of HR8.out
          go_wp2_with fail
          obtain ⟨h8, g8⟩ := out4 HR8.out (.int .i64 0) (.int .i64 0) (.int .i64 0) (.slice none 0 0)
          obtain ⟨W8, hW8⟩ : ∃ W8, Hid (W8 = (((w8.setCell ⟨S0 + 1, 0, none⟩ (.int .i64 0)).setCell ⟨S0 + 1, 1, none⟩ (.int .i64 0)).setCell ⟨S0 + 1, 2, none⟩ (.int .i64 0)).setCell ⟨S0 + 1, 3, none⟩ (.slice none 0 0)) := ⟨_, Lib.hid rfl⟩
          rw [← hW8.out] at h8 g8 ⊢
          obtain ⟨⟨j0, j1, j2, j3⟩, _⟩ := cells4_of h8
          refine bodyPost_ret (v := .agg #[.int .i64 0, .int .i64 0, .int .i64 0, .slice none 0 0]) ?_ rfl ?_
          · simp [results, Try.f31, go_sem, j0, j1, j2, j3]
          · exact ⟨0, 0, 0, [], none, 0, 0, rfl, HJJ.out, fitR_nil _ _ _ (Nat.le_refl _), HBF.out.grown g8 HBF.out.size (fun j e => by have := Option.some.inj e; have := HS00.out; omega)⟩
        · subst hv
          have hcap := hRW
          obtain ⟨_, _, hc1, hc2, _⟩ := hcap
          have hc7 : cs7.length ≤ 9223372036854775807 := by unfold maxLen at hc2; omega
          have HRW := Lib.hid hRW
          have hlen := HT8.out.len
          clear hRW hc1 hc2
          match cs7, fs7, hlen, HT8, HRW, HROW8, HJJ, hc7 with
          | [], [], _, HT8, HRW, HROW8, HJJ, _ =>
            obtain ⟨⟨r0, r1, r2, r3⟩, z0, z1, z2, z3⟩ := cells4_of HR8.out
            go_wp2_with fail
            obtain ⟨h8, g8⟩ := out4 HR8.out (.int .i64 0) (.int .i64 0) (.int .i64 0) (.slice none 0 0)
            obtain ⟨W8, hW8⟩ : ∃ W8, Hid (W8 = (((w8.setCell ⟨S0 + 1, 0, none⟩ (.int .i64 0)).setCell ⟨S0 + 1, 1, none⟩ (.int .i64 0)).setCell ⟨S0 + 1, 2, none⟩ (.int .i64 0)).setCell ⟨S0 + 1, 3, none⟩ (.slice none 0 0)) := ⟨_, Lib.hid rfl⟩
            rw [← hW8.out] at h8 g8 ⊢
            obtain ⟨⟨j0, j1, j2, j3⟩, _⟩ := cells4_of h8
            refine bodyPost_ret (v := .agg #[.int .i64 0, .int .i64 0, .int .i64 0, .slice none 0 0]) ?_ rfl ?_
            · simp [results, Try.f31, go_sem, j0, j1, j2, j3]
            · exact ⟨0, 0, 0, [], none, 0, 0, rfl, HJJ.out, fitR_nil _ _ _ (Nat.le_refl _), HBF.out.grown g8 HBF.out.size (fun j e => by have := Option.some.inj e; have := HS00.out; omega)⟩
          | [(q0, q1, q2, (qa, qn, qc))], [f], _, HT8, HRW, HROW8, HJJ, _ =>
            obtain ⟨k0, k1, k2, k3⟩ := HRW.out.four (i := 0) rfl
            simp only [Nat.zero_mul, Nat.zero_add] at k0 k1 k2 k3
            obtain ⟨bs2, lo, hi, e2, hlo, hFR2, _⟩ := HT8.out.each 0 _ _ rfl rfl
            have HFR2 := Lib.hid hFR2
            have HLO := Lib.hid hlo
            have HE2 := Lib.hid e2
            clear hFR2 hlo e2
            obtain ⟨⟨r0, r1, r2, r3⟩, z0, z1, z2, z3⟩ := cells4_of HR8.out
            go_wp2_with fail
            obtain ⟨h8, g8⟩ := out4 HR8.out (.int .i64 q0) (.int .i64 q1) (.int .i64 q2) (.slice qa qn qc)
            obtain ⟨W8, hW8⟩ : ∃ W8, Hid (W8 = (((w8.setCell ⟨S0 + 1, 0, none⟩ (.int .i64 q0)).setCell ⟨S0 + 1, 1, none⟩ (.int .i64 q1)).setCell ⟨S0 + 1, 2, none⟩ (.int .i64 q2)).setCell ⟨S0 + 1, 3, none⟩ (.slice qa qn qc)) := ⟨_, Lib.hid rfl⟩
            rw [← hW8.out] at h8 g8 ⊢
            obtain ⟨⟨j0, j1, j2, j3⟩, _⟩ := cells4_of h8
            refine bodyPost_ret (v := .agg #[.int .i64 q0, .int .i64 q1, .int .i64 q2, .slice qa qn qc]) ?_ rfl ?_
            · simp [results, Try.f31, go_sem, j0, j1, j2, j3]
            · have hs := HS0.out
              have hw := HS00.out
              have hlt5 : S0 + 1 < w5.heap.size := by have := HL5.out; have := HB67.out; have := HSB6.out; omega
              have hlo := HLO.out
              have hkp : Keeps lo hi w8 W8 := Keeps.of_grown g8 HFR2.out.top (fun j e => by have := Option.some.inj e; omega)
              refine ⟨q0, q1, q2, bs2, qa, qn, qc, rfl, ?_, (HFR2.out.keeps hkp).mono (by have := HB5.out.size; omega) (Nat.le_trans HFR2.out.top g8.size) (Nat.le_refl _), HBF.out.grown g8 HBF.out.size (fun j e => by have := Option.some.inj e; have := HS00.out; omega)⟩
              rw [HJJ.out]
              exact HE2.out
          | c1 :: c2 :: cr, f1 :: f2 :: fr, hlen, HT8, HRW, HROW8, HJJ, hc7 =>
            obtain ⟨L, hL⟩ : ∃ L, (c1 :: c2 :: cr).length = L := ⟨_, rfl⟩
            have HLL := Lib.hid hL
            rw [hL] at hc7 ⊢
            have hL0 : ((L : Int) == 0) = false := by rw [← hL]; exact beq_eq_false_iff_ne.2 (by simp; omega)
            have hL1 : ((L : Int) == 1) = false := by rw [← hL]; exact beq_eq_false_iff_ne.2 (by simp; omega)
            clear hL hlen
            obtain ⟨⟨r0, r1, r2, r3⟩, z0, z1, z2, z3⟩ := cells4_of HR8.out
            go_wp2_with fail
            obtain ⟨h8, g8⟩ := out4 HR8.out (.int .i64 3) (.int .i64 0) (.int .i64 0) (.slice (some ⟨g, 0, none⟩) L cap7)
            obtain ⟨W8, hW8⟩ : ∃ W8, Hid (W8 = (((w8.setCell ⟨S0 + 1, 0, none⟩ (.int .i64 3)).setCell ⟨S0 + 1, 1, none⟩ (.int .i64 0)).setCell ⟨S0 + 1, 2, none⟩ (.int .i64 0)).setCell ⟨S0 + 1, 3, none⟩ (.slice (some ⟨g, 0, none⟩) L cap7)) := ⟨_, Lib.hid rfl⟩
            rw [← hW8.out] at h8 g8 ⊢
            obtain ⟨⟨j0, j1, j2, j3⟩, _⟩ := cells4_of h8
            refine bodyPost_ret (v := .agg #[.int .i64 3, .int .i64 0, .int .i64 0, .slice (some ⟨g, 0, none⟩) L cap7]) ?_ rfl ?_
            · simp [results, Try.f31, go_sem, j0, j1, j2, j3]
            · have hs := HS0.out
              have hw := HS00.out
              have hlt5 : S0 + 1 < w5.heap.size := by have := HL5.out; have := HB67.out; have := HSB6.out; omega
              have hN8 := HN8.out
              obtain ⟨a', cap', hv', hFR'⟩ := fitR_of_row HROW8.out HT8.out
              have hll : (f1 :: f2 :: fr).length = L := by rw [← HT8.out.len]; exact HLL.out
              rw [HLL.out] at hv'
              rw [hll] at hv' hFR'
              cases hv'
              have hkp : Keeps w5.heap.size w8.heap.size w8 W8 := Keeps.of_grown g8 (Nat.le_refl _) (fun j e => by have := Option.some.inj e; omega)
              refine ⟨3, 0, 0, f1 :: f2 :: fr, _, _, _, rfl, HJJ.out, (hFR'.keeps hkp).mono (by have := HB5.out.size; omega) g8.size (Nat.le_refl _), HBF.out.grown g8 HBF.out.size (fun j e => by have := Option.some.inj e; have := HS00.out; omega)⟩
      · rw [if_pos rfl] at HJJ
        obtain ⟨⟨r0, r1, r2, r3⟩, z0, z1, z2, z3⟩ := cells4_of HR8.out
        go_wp2_with fail
        obtain ⟨h8, g8⟩ := out4 HR8.out (.int .i64 0) (.int .i64 2) (.int .i64 0) (.slice none 0 0)
        obtain ⟨W8, hW8⟩ : ∃ W8, Hid (W8 = (((w8.setCell ⟨S0 + 1, 0, none⟩ (.int .i64 0)).setCell ⟨S0 + 1, 1, none⟩ (.int .i64 2)).setCell ⟨S0 + 1, 2, none⟩ (.int .i64 0)).setCell ⟨S0 + 1, 3, none⟩ (.slice none 0 0)) := ⟨_, Lib.hid rfl⟩
        rw [← hW8.out] at h8 g8 ⊢
        obtain ⟨⟨j0, j1, j2, j3⟩, _⟩ := cells4_of h8
        refine bodyPost_ret (v := .agg #[.int .i64 0, .int .i64 2, .int .i64 0, .slice none 0 0]) ?_ rfl ?_
        · simp [results, Try.f31, go_sem, j0, j1, j2, j3]
        · exact ⟨0, 2, 0, [], none, 0, 0, rfl, HJJ.out, fitR_nil _ _ _ (Nat.le_refl _), HBF.out.grown g8 HBF.out.size (fun j e => by have := Option.some.inj e; have := HS00.out; omega)⟩
set_option maxRecDepth 100000 in
set_option maxHeartbeats 16000000 in
theorem simple_and (vs : List Int) (va : Option Addr) (vn vc : Nat) (v x : Int) (gs : List Fm) (a : Option Addr) (n cap : Nat) (w : World) (hF : FitS w gs a n cap) (hV : Rd w .i64 va vn vc vs) (hgood : goodB vs) (hL : isL gs = true) (hsz : szL gs ≤ 549755813888) (ih : ∀ f ∈ gs, SimpAt vs va vn vc f) :
    Calls Try.prog 31 #[.agg #[.int .i64 2, .int .i64 v, .int .i64 x, .slice a n cap], .slice va vn vc] w (Simped w (joinF 2 (simpL vs gs))) := by
  have hcm := hF.cap_le
  have hle := hF.le
  have hnb : n ≤ 9223372036854775807 := by unfold maxLen at hcm; omega
  have HLN := Lib.hid hF.len
  have HF := Lib.hid hF
  have HV := Lib.hid hV
  have HGOOD := Lib.hid hgood
  have HL := Lib.hid hL
  have HSZ := Lib.hid hsz
  have IH := Lib.hid ih
  have HK : Hid (keptV 2 = 2) := Lib.hid rfl
  have HO : Hid (outV 2 = 0) := Lib.hid rfl
  clear hF hV hgood hL hsz ih hcm
  obtain ⟨S0, hS0⟩ : ∃ S0, w.heap.size = S0 := ⟨_, rfl⟩
  have hb0 : Below w.heap.size w ((w.alloc (.cells #[.int .i64 2, .int .i64 v, .int .i64 x, .slice a n cap] 26)).alloc (.cells #[.int .i64 0, .int .i64 0, .int .i64 0, .slice none 0 0] 26)) := ((Below.refl _ _).alloc (Nat.le_refl _) _).alloc (by simp) _
  have hs0 : ((w.alloc (.cells #[.int .i64 2, .int .i64 v, .int .i64 x, .slice a n cap] 26)).alloc (.cells #[.int .i64 0, .int .i64 0, .int .i64 0, .slice none 0 0] 26)).heap.size = S0 + 2 := by simp [hS0]
  have hx0 : ((w.alloc (.cells #[.int .i64 2, .int .i64 v, .int .i64 x, .slice a n cap] 26)).alloc (.cells #[.int .i64 0, .int .i64 0, .int .i64 0, .slice none 0 0] 26)).heap[S0]? = some (.cells #[.int .i64 2, .int .i64 v, .int .i64 x, .slice a n cap] 26) := by rw [← hS0]; exact (heap_alloc_old _ _ (by simp)).trans (heap_alloc_new _ _)
  have hr0 : ((w.alloc (.cells #[.int .i64 2, .int .i64 v, .int .i64 x, .slice a n cap] 26)).alloc (.cells #[.int .i64 0, .int .i64 0, .int .i64 0, .slice none 0 0] 26)).heap[S0 + 1]? = some (.cells #[.int .i64 0, .int .i64 0, .int .i64 0, .slice none 0 0] 26) := by
    have := heap_alloc_new (w.alloc (.cells #[.int .i64 2, .int .i64 v, .int .i64 x, .slice a n cap] 26)) (.cells #[.int .i64 0, .int .i64 0, .int .i64 0, .slice none 0 0] 26)
    rw [World.size_alloc, hS0] at this
    exact this
  go_enter Try.func31, Try.ntmps31
  go_upto_region 1 with fail
  obtain ⟨w0, hw0⟩ : ∃ w0, ((w.alloc (.cells #[.int .i64 2, .int .i64 v, .int .i64 x, .slice a n cap] 26)).alloc (.cells #[.int .i64 0, .int .i64 0, .int .i64 0, .slice none 0 0] 26)) = w0 := ⟨_, rfl⟩
  rw [hw0] at hb0 hs0 hx0 hr0 ⊢
  try rw [hS0]
  clear hw0
  obtain ⟨⟨cx0, cx1, cx2, cx3⟩, _⟩ := cells4_of hx0
  have HX0 := Lib.hid hx0
  have HR0 := Lib.hid hr0
  have HB0 := Lib.hid hb0
  have HS00 := Lib.hid hS0
  have HS0 := Lib.hid hs0
  clear hx0 hr0 hb0 hs0 hS0
  go_wp2_with fail
  refine (constant_calls 0 w0).mono ?_
  rintro e w1 ⟨rfl, g1⟩
  have n6 := heap_alloc_new w1 (.cells #[.int .i64 0, .int .i64 0, .int .i64 0, .slice none 0 0] 26)
  have b6 : Below w0.heap.size w0 (w1.alloc (.cells #[.int .i64 0, .int .i64 0, .int .i64 0, .slice none 0 0] 26)) := (g1.alloc _).below
  have hs6 := g1.below.size
  go_upto_region 17 with fail
  obtain ⟨B6, hB6⟩ : ∃ B6, w1.heap.size = B6 := ⟨_, rfl⟩
  obtain ⟨w2, hw2⟩ : ∃ w2, w1.alloc (.cells #[.int .i64 0, .int .i64 0, .int .i64 0, .slice none 0 0] 26) = w2 := ⟨_, rfl⟩
  rw [hw2] at n6 b6 ⊢
  rw [hB6] at n6 hs6 ⊢
  clear hw2 hB6 g1
  go_wp2_with fail
  refine (constant_calls 2 w2).mono ?_
  rintro e w3 ⟨rfl, g3⟩
  have n7 := heap_alloc_new w3 (.cells #[.int .i64 0, .int .i64 2, .int .i64 0, .slice none 0 0] 26)
  have b7 : Below w2.heap.size w2 (w3.alloc (.cells #[.int .i64 0, .int .i64 2, .int .i64 0, .slice none 0 0] 26)) := (g3.alloc _).below
  have hs7 := g3.below.size
  go_upto_region 18 with fail
  obtain ⟨B7, hB7⟩ : ∃ B7, w3.heap.size = B7 := ⟨_, rfl⟩
  obtain ⟨w4, hw4⟩ : ∃ w4, w3.alloc (.cells #[.int .i64 0, .int .i64 2, .int .i64 0, .slice none 0 0] 26) = w4 := ⟨_, rfl⟩
  rw [hw4] at n7 b7 ⊢
  rw [hB7] at n7 hs7 ⊢
  clear hw4 hB7 g3
  have n6' := (b7.block _ (Array.getElem?_eq_some_iff.1 n6).1).trans n6
  have b04 : Below w0.heap.size w0 w4 := b6.trans (b7.mono b6.size)
  have hB67 : B6 < B7 := Nat.lt_of_lt_of_le (Array.getElem?_eq_some_iff.1 n6).1 hs7
  have hSB6 : S0 + 1 < B6 := by have := HS0.out; omega
  have hx4 := (b04.block S0 (by have := HS0.out; omega)).trans HX0.out
  have hr4 := (b04.block (S0 + 1) (by have := HS0.out; omega)).trans HR0.out
  have hb4 := HB0.out.trans (b04.mono HB0.out.size)
  have hl7 : B7 < w4.heap.size := (Array.getElem?_eq_some_iff.1 n7).1
  clear n6 b6 b7 b04 hs6 hs7 cx0 cx1 cx2 cx3
  obtain ⟨⟨m0, m1, m2, m3⟩, mf0, mf1, mf2, mf3⟩ := cells4_of n6'
  obtain ⟨⟨t0, t1, t2, t3⟩, tf0, tf1, tf2, tf3⟩ := cells4_of n7
  obtain ⟨⟨d0, d1, d2, d3⟩, _⟩ := cells4_of hx4
  have hne : B6 ≠ B7 := by omega
  have hne2 : B7 ≠ B6 := by omega
  have HN6 := Lib.hid n6'
  have HN7 := Lib.hid n7
  have HX4 := Lib.hid hx4
  have HR4 := Lib.hid hr4
  have HB4 := Lib.hid hb4
  have HB67 := Lib.hid hB67
  have HSB6 := Lib.hid hSB6
  have HL7 := Lib.hid hl7
  clear n6' n7 hx4 hr4 hb4 hB67 hSB6 hl7
  go_upto_region 20 with fail
  obtain ⟨w5, hw5⟩ : ∃ w5, Hid (w5 = ((((((((w4.setCell ⟨B6, 0, none⟩ (.int .i64 0)).setCell ⟨B6, 1, none⟩ (.int .i64 2)).setCell ⟨B6, 2, none⟩ (.int .i64 0)).setCell ⟨B6, 3, none⟩ (.slice none 0 0)).setCell ⟨B7, 0, none⟩ (.int .i64 0)).setCell ⟨B7, 1, none⟩ (.int .i64 0)).setCell ⟨B7, 2, none⟩ (.int .i64 0)).setCell ⟨B7, 3, none⟩ (.slice none 0 0))) := ⟨_, Lib.hid rfl⟩
  rw [← hw5.out]
  obtain ⟨k6, k7, ks, ko, kos, kt, kou⟩ := swap8 hne HN6.out HN7.out w5 hw5.out
  have hx5 := (ko S0 (by have := HSB6.out; omega) (by have := HSB6.out; have := HB67.out; omega)).trans HX4.out
  have hr5 := (ko (S0 + 1) (by have := HSB6.out; omega) (by have := HSB6.out; have := HB67.out; omega)).trans HR4.out
  have hb5 : Below w.heap.size w w5 := ⟨kos.trans HB4.out.os, kt.trans HB4.out.tape, kou.trans HB4.out.output, by rw [ks]; exact HB4.out.size, fun j hj => (ko j (by have := HSB6.out; have := HS00.out; omega) (by have := HSB6.out; have := HB67.out; have := HS00.out; omega)).trans (HB4.out.block j hj)⟩
  have hl5 : B7 < w5.heap.size := by rw [ks]; exact HL7.out
  have hB67 := HB67.out
  have hSB6 := HSB6.out
  clear HN6 HN7 HX4 HR4 HB4 HB67 HSB6 HL7 hw5 ko kos kt kou ks m0 m1 m2 m3 mf0 mf1 mf2 mf3 t0 t1 t2 t3 tf0 tf1 tf2 tf3 d0 d1 d2 d3 hne hne2
  obtain ⟨⟨d0, d1, d2, d3⟩, _⟩ := cells4_of hx5
  have HX5 := Lib.hid hx5
  have HR5 := Lib.hid hr5
  have HB5 := Lib.hid hb5
  have HL5 := Lib.hid hl5
  have K6 := Lib.hid k6
  have K7 := Lib.hid k7
  have HB67 := Lib.hid hB67
  have HSB6 := Lib.hid hSB6
  have HNF := Lib.hid (simpL_nf HGOOD.out gs HL.out)
  clear hx5 hr5 hb5 hl5 k6 k7 hB67 hSB6
  go_wp2_with fail
  go_loopw [8, 77] (fun vv i wr => ∃ (q : Nat) (cs : List N4), i = .int .i64 q ∧ q ≤ n ∧ Row4 wr w5.heap.size vv cs ∧ TwL w5.heap.size wr vv.ownBlock cs (flK 2 (simpL vs (gs.take q))) ∧ Below w5.heap.size w5 wr) (fun _ i _ => n - (RowKit.intOf i).toNat)
  case atStart => exact ⟨0, [], rfl, Nat.zero_le _, Row4.nil _ _, TwL.nil _ _ _, Below.refl _ _⟩
  case round =>
    obtain ⟨q, cs, rfl, hq, hrow, htw, hbr⟩ := hrel
    by_cases hqn : q < n
    · have hqn' : (q : Int) < n := by omega
      have hbw := HB5.out.trans (hbr.mono HB5.out.size)
      obtain ⟨b, o, op1, v1, x1, bs, a1, n1, cap1, ha, hb, hel, c0, c1, c2, c3, hF2⟩ := (HF.out.below hbw).elem q hqn
      have hmem := List.mem_of_getElem? hel
      have hbR : Below wr.heap.size wr (wr.alloc (.cells #[.int .i64 op1, .int .i64 v1, .int .i64 x1, .slice a1 n1 cap1] 26)) := (Below.refl _ _).alloc (Nat.le_refl _) _
      have hxR := heap_alloc_new wr (.cells #[.int .i64 op1, .int .i64 v1, .int .i64 x1, .slice a1 n1 cap1] 26)
      have hC := IH.out _ hmem op1 v1 x1 bs a1 n1 cap1 (wr.alloc (.cells #[.int .i64 op1, .int .i64 v1, .int .i64 x1, .slice a1 n1 cap1] 26)) rfl (hF2.below hbR) (HV.out.below (hbw.trans (hbR.mono hbw.size)))
      have hnfe : nfF (simpF vs (.mk op1 v1 x1 bs)) := simp_nf HGOOD.out _ ((isL_iff _).1 HL.out _ hmem)
      have htk := simpL_take vs gs q _ hel
      have hszq : szL (simpL vs (gs.take (q + 1))) ≤ 549755813888 := by
        have h1 := simpL_sz vs _ (isL_take HL.out (q + 1))
        have h2 := szL_take_le gs (q + 1)
        have := HSZ.out
        omega
      rw [htk] at hszq
      have hRlt : wr.heap.size < (wr.alloc (.cells #[.int .i64 op1, .int .i64 v1, .int .i64 x1, .slice a1 n1 cap1] 26)).heap.size := by simp
      have hcsl : cs.length ≤ szL (simpL vs (gs.take q)) := by rw [htw.len]; exact flK_len _ _
      obtain ⟨rf, hrf⟩ : ∃ rf, simpF vs (.mk op1 v1 x1 bs) = rf := ⟨_, rfl⟩
      rw [hrf] at hC hnfe htk hszq
      have HNFE := Lib.hid hnfe
      have HTK := Lib.hid htk
      have HSQ := Lib.hid hszq
      have HCL := Lib.hid hcsl
      have HTW := Lib.hid htw
      have HROW := Lib.hid hrow
      have HBR := Lib.hid hbr
      have HBW := Lib.hid hbw
      subst ha
      clear hmem hel hF2 hrf hnfe htk hszq hcsl htw hrow hbr hbw
      go_upto_region 24 with fail
      obtain ⟨R, hR⟩ : ∃ R, wr.heap.size = R := ⟨_, rfl⟩
      obtain ⟨wA, hwA⟩ : ∃ wA, wr.alloc (.cells #[.int .i64 op1, .int .i64 v1, .int .i64 x1, .slice a1 n1 cap1] 26) = wA := ⟨_, rfl⟩
      rw [hwA] at hC hbR hxR hRlt ⊢
      have hC2 := hC
      rw [hR] at hxR hRlt ⊢
      have HBA := Lib.hid hbR
      have HRQ := Lib.hid hR
      obtain ⟨⟨e0, e1, e2, e3⟩, _⟩ := cells4_of hxR
      have HXR := Lib.hid hxR
      have HRLT := Lib.hid hRlt
      clear hC hwA hR hbR hxR hRlt c0 c1 c2 c3
      go_wp2_with fail
      refine hC2.mono ?_
      rintro e w6 ⟨op, vv, xx, ss, sa, sn, sc, rfl, hre, hFR, hb6⟩
      have hx6 := (hb6.block _ HRLT.out).trans HXR.out
      obtain ⟨⟨y0, y1, y2, y3⟩, f0, f1, f2, f3⟩ := cells4_of hx6
      have HRE := Lib.hid hre
      have HFR := Lib.hid hFR
      have HB6 := Lib.hid hb6
      have HX6 := Lib.hid hx6
      clear hC2 e0 e1 e2 e3 hre hFR hb6 hx6
      go_upto_region 25 with fail
      obtain ⟨h7, g7⟩ := out4 HX6.out (.int .i64 op) (.int .i64 vv) (.int .i64 xx) (.slice sa sn sc)
      obtain ⟨w7, hw7⟩ : ∃ w7, Hid (w7 = (((w6.setCell ⟨R, 0, none⟩ (.int .i64 op)).setCell ⟨R, 1, none⟩ (.int .i64 vv)).setCell ⟨R, 2, none⟩ (.int .i64 xx)).setCell ⟨R, 3, none⟩ (.slice sa sn sc)) := ⟨_, Lib.hid rfl⟩
      rw [← hw7.out] at h7 g7 ⊢
      have hR := HRQ.out
      have hb67 : Below wr.heap.size wr w6 := HBA.out.trans (HB6.out.mono HBA.out.size)
      have hb7 : Below wr.heap.size wr w7 := hb67.grown g7 hb67.size (fun j e => by have := Option.some.inj e; omega)
      have HB7 := Lib.hid hb7
      have HFR7 := Lib.hid (HFR.out.keeps (Keeps.of_grown g7 (Nat.le_refl _) (fun j e => by have := Option.some.inj e; have := HRLT.out; omega)))
      have HBW7 := Lib.hid (HBR.out.trans (hb7.mono HBR.out.size))
      have hrow7 := HROW.out.stays hb7
      have HTW7 := Lib.hid (HTW.out.below hb7)
      have HROW7 := Lib.hid hrow7
      have hsz7 : w5.heap.size ≤ w7.heap.size := HBW7.out.size
      have HH7 := Lib.hid h7
      obtain ⟨⟨e0, e1, e2, e3⟩, _⟩ := cells4_of h7
      obtain ⟨⟨d0', d1', d2', d3'⟩, _⟩ := cells4_of ((HBW7.out.block S0 (by have := HL5.out; have := HB67.out; have := HSB6.out; omega)).trans HX5.out)
      have HA7 := Lib.hid (show wA.heap.size ≤ w7.heap.size from Nat.le_trans HB6.out.size g7.size)
      clear hR hb67 hb7 h7 g7 hw7 y0 y1 y2 y3 f0 f1 f2 f3
      have hownlt : ∀ j, u8.ownBlock = some j → j < wA.heap.size := fun j hj => by have := (HROW.out.lt j hj).2; have := HBA.out.size; omega
      have HOWN := Lib.hid hownlt
      have HAW := Lib.hid (show w5.heap.size ≤ wA.heap.size from Nat.le_trans HBR.out.size HBA.out.size)
      clear hownlt
      by_cases ho : op = 2
      · subst ho
        have hnf2 : nfF (.mk 2 vv xx ss) := by rw [← HRE.out]; exact HNFE.out
        obtain ⟨hsh, _⟩ := nf_ar hnf2
        have hss2 : 2 ≤ ss.length := by rcases hsh with k | k | k | k <;> omega
        have hssn : ss.length = sn := HFR7.out.here.len
        have hssz : ss.length ≤ szF (.mk 2 vv xx ss) := by
          have := fm_len ss
          simp only [szF]
          omega
        obtain ⟨b2, o2, cs2, ha2, hb2, hcl, hcell, hsub⟩ := HFR7.out.elems (by omega)
        subst ha2
        have hroom : cs.length + sn < 1099511627776 := by
          have := HSQ.out
          rw [HRE.out, szL_app] at this
          simp only [szL] at this
          have := HCL.out
          omega
        have HT8 := Lib.hid (HTW7.out.app (show TwL w5.heap.size w7 u8.ownBlock cs2 ss from ⟨by rw [hcl, hssn], fun i c f h1 h2 => by
          obtain ⟨bs2, e2, hF2⟩ := hsub i c f h1 h2
          exact ⟨bs2, wA.heap.size, w6.heap.size, e2, HAW.out, hF2, fun j hj => .inl (HOWN.out j hj)⟩⟩))
        have HCE := Lib.hid hcell
        have hsnb : sn ≤ 9223372036854775807 := by omega
        clear hnf2 hsh hssz hsub hcell hss2 hb2
        go_wp2_with (at_builtin; refine append4s w7 rfl _ _ rfl w5.heap.size u8 cs rfl hrow7 b2 o2 sn sc cs2 rfl hcl HCE.out hroom hsz7 ?_; intro v' w8 hrow8 hgrow8 hown8)
        have hb8 : Below w5.heap.size w5 w8 := HBW7.out.grown hgrow8 hsz7 (fun j hj => (HROW7.out.lt j hj).1)
        have ht8 := HT8.out.grown hgrow8 hown8
        have HT9 := Lib.hid (show TwL w5.heap.size w8 v'.ownBlock (cs ++ cs2) (flK 2 (simpL vs (gs.take (q + 1)))) by
          rw [HTK.out, flK_snoc, HRE.out, if_pos (show opF (.mk 2 vv xx ss) = 2 from rfl)]
          exact ht8)
        clear hgrow8 hown8 hrow7 ht8
        go_wp2_with fail
        go_roundw
        case rel => exact ⟨q + 1, _, by go_num, by omega, hrow8, HT9.out, hb8⟩
        case measure => simp [RowKit.intOf]; omega
      · have ho' : (op == 2) = false := beq_eq_false_iff_ne.2 ho
        have hC := ord_calls op vv xx ss sa sn sc 0 2 0 [] none 0 0 w7 HFR7.out.here (fitS_nil w7)
        obtain ⟨r, hr⟩ : ∃ r, ordF (.mk op vv xx ss) (.mk 0 2 0 []) = r := ⟨_, rfl⟩
        rw [hr] at hC
        have HRR := Lib.hid (show ordF rf (cst (keptV 2)) = r by rw [HRE.out, HK.out]; exact hr)
        have HOP := Lib.hid (show opF rf ≠ 2 by rw [HRE.out]; exact ho)
        obtain ⟨⟨m0, m1, m2, m3⟩, _⟩ := cells4_of ((HBW7.out.block B6 (by have := HL5.out; have := HB67.out; omega)).trans K6.out)
        clear hr
        go_wp2_with fail
        refine hC.mono ?_
        rintro e w8 ⟨rfl, g8⟩
        have hb78 := g8.below
        have hb8 := HBW7.out.trans (hb78.mono hsz7)
        have hrow8 := HROW7.out.stays hb78
        have ht8 := HTW7.out.below hb78
        have HB8 := Lib.hid hb8
        have HROW8 := Lib.hid hrow8
        have HT8 := Lib.hid ht8
        have HFR8 := Lib.hid (HFR7.out.keeps (Keeps.of_below hb78 HFR7.out.top))
        have HH8 := Lib.hid ((hb78.block _ (Array.getElem?_eq_some_iff.1 HH7.out).1).trans HH7.out)
        clear hb78 g8 hC hrow7 e0 e1 e2 e3 d0' d1' d2' d3' m0 m1 m2 m3 ht8
        by_cases hr0 : r = 0
        · subst hr0
          have HT9 := Lib.hid (show TwL w5.heap.size w8 u8.ownBlock cs (flK 2 (simpL vs (gs.take (q + 1)))) by
            rw [HTK.out, flK_snoc, if_neg HOP.out, if_pos HRR.out, List.append_nil]
            exact HT8.out)
          clear hrow8 hb8
          go_wp2_with fail
          go_roundw
          case rel => exact ⟨q + 1, _, by go_num, by omega, HROW8.out, HT9.out, HB8.out⟩
          case measure => simp [RowKit.intOf]; omega
        · have hr0' : (r != 0) = true := by simpa using hr0
          have hroom : cs.length < 1099511627776 := by
            have := HSQ.out
            rw [szL_app] at this
            have := HCL.out
            omega
          have hsz8 := hb8.size
          have HTS := Lib.hid (HT8.out.snoc (show Tw w5.heap.size w8 u8.ownBlock (op, vv, xx, (sa, sn, sc)) (.mk op vv xx ss) from ⟨ss, wA.heap.size, w6.heap.size, rfl, HAW.out, HFR8.out, fun j hj => .inl (HOWN.out j hj)⟩))
          obtain ⟨⟨e0, e1, e2, e3⟩, _⟩ := cells4_of HH8.out
          clear hb8
          go_wp2_with (at_builtin; refine append4_at w8 rfl _ _ rfl w5.heap.size u8 cs rfl hrow8 (op, vv, xx, (sa, sn, sc)) rfl hroom hsz8 ?_; intro v' w9 hrow9 hgrow9 hown9)
          have hb9 : Below w5.heap.size w5 w9 := HB8.out.grown hgrow9 hsz8 (fun j hj => (HROW8.out.lt j hj).1)
          have ht9 := HTS.out.grown hgrow9 hown9
          have HT9 := Lib.hid (show TwL w5.heap.size w9 v'.ownBlock (cs ++ [(op, vv, xx, (sa, sn, sc))]) (flK 2 (simpL vs (gs.take (q + 1)))) by
            rw [HTK.out, flK_snoc, if_neg HOP.out, if_neg (by rw [HRR.out]; exact hr0), HRE.out]
            exact ht9)
          clear hgrow9 hown9 hrow8 ht9
          go_wp2_with fail
          go_roundw
          case rel => exact ⟨q + 1, _, by go_num, by omega, hrow9, HT9.out, hb9⟩
          case measure => simp [RowKit.intOf]; omega
    · obtain rfl : q = n := by omega
      rw [List.take_of_length_le (by rw [HLN.out]; exact Nat.le_refl _)] at htw
      have hflk : flK 2 (simpL vs gs) = flF 2 (simpL vs gs) := flK_flF (by omega) _ HNF.out
      rw [hflk] at htw
      have hcsl : cs.length < 4611686018427387904 := by
        have h1 := htw.len
        have h2 := flK_len 2 (simpL vs gs)
        have h3 := simpL_sz vs gs HL.out
        have := HSZ.out
        rw [hflk] at h2
        omega
      have hS := sortV_calls w5.heap.size u8 cs _ wr hrow htw hcsl
      have HBR := Lib.hid hbr
      have HOWN := Lib.hid (fun j hj => (hrow.lt j hj).1)
      have HJ := Lib.hid (fun s hu hm => join_of (op := 2) (by omega) (l := simpL vs gs) (s := s) HNF.out hu hm)
      clear hflk hcsl htw hrow hbr
      go_wp2_with fail
      refine hS.mono ?_
      rintro e w6 ⟨cs6, fs6, rfl, g6, hrow6, ht6, _, hm6, hp6⟩
      have hb6 := HBR.out.grown g6 HBR.out.size HOWN.out
      have hC := compactV_calls w5.heap.size u8 cs6 fs6 w6 hrow6 ht6 hp6
      have HB6 := Lib.hid hb6
      have HM6 := Lib.hid hm6
      clear hS g6 hrow6 ht6 hp6 hb6 hm6
      go_wp2_with fail
      refine hC.mono ?_
      rintro e w7 ⟨v7, cs7, fs7, rfl, hv7, g7, hrow7, ht7, hu7, hm7⟩
      have hb7 := HB6.out.grown g7 HB6.out.size HOWN.out
      rw [← hv7] at ht7
      have hj := HJ.out fs7 hu7 (fun k => (hm7 k).trans (HM6.out k))
      rw [HO.out] at hj
      have hK := containsV_calls w5.heap.size B7 0 v7 cs7 fs7 w7 hrow7 ht7 ((hb7.block B7 HL5.out).trans K7.out)
      obtain ⟨ca, hca⟩ : ∃ ca, (fs7.any fun p => decide (ordF p (cst 0) = 0)) = ca := ⟨_, rfl⟩
      rw [hca] at hj hK
      have HJJ := Lib.hid hj
      have HB7 := Lib.hid hb7
      have HROW7 := Lib.hid hrow7
      have HT7 := Lib.hid ht7
      have HOWN7 := Lib.hid (show ∀ j, v7.ownBlock = some j → w5.heap.size ≤ j from fun j hj => (hrow7.lt j hj).1)
      clear hC hj hca hb7 hm7 hu7 g7 ht7 hrow7 HJ HM6
      go_wp2_with fail
      refine hK.mono ?_
      rintro e w8 ⟨rfl, b8⟩
      have hb8 := HB7.out.trans (b8.mono HB7.out.size)
      have hrow8 := HROW7.out.stays b8
      have ht8 := HT7.out.below b8
      have HR8 := Lib.hid ((hb8.block (S0 + 1) (by have := HL5.out; have := HB67.out; have := HSB6.out; omega)).trans HR5.out)
      have HX8 := Lib.hid ((hb8.block S0 (by have := HL5.out; have := HB67.out; have := HSB6.out; omega)).trans HX5.out)
      have HK6 := Lib.hid ((hb8.block B6 (by have := HL5.out; have := HB67.out; omega)).trans K6.out)
      have HK7 := Lib.hid ((hb8.block B7 HL5.out).trans K7.out)
      have HBF := Lib.hid (HB5.out.trans (hb8.mono HB5.out.size))
      have HN8 := Lib.hid hb8.size
      have HROW8 := Lib.hid hrow8
      have HT8 := Lib.hid ht8
      obtain ⟨⟨t0, t1, t2, t3⟩, _⟩ := cells4_of HK7.out
      obtain ⟨⟨m0, m1, m2, m3⟩, _⟩ := cells4_of HK6.out
      obtain ⟨⟨d0, d1, d2, d3⟩, _⟩ := cells4_of HX8.out
      clear hb8 b8 hK hrow8 ht8 HROW7 HT7 HB7
      cases ca
      · rw [if_neg (by simp)] at HJJ
        rcases row4_cases HROW8.out with ⟨hv, rfl⟩ | ⟨g, cap7, hv, hgN, hRW⟩
        · subst hv
          have hl : fs7.length = 0 := by rw [← HT8.out.len]; rfl
          obtain rfl : fs7 = [] := List.eq_nil_of_length_eq_zero hl
          clear hl
          obtain ⟨⟨r0, r1, r2, r3⟩, z0, z1, z2, z3⟩ := cells4_of HR8.out
          go_wp2_with fail
          obtain ⟨h8, g8⟩ := out4 HR8.out (.int .i64 0) (.int .i64 2) (.int .i64 0) (.slice none 0 0)
          obtain ⟨W8, hW8⟩ : ∃ W8, Hid (W8 = (((w8.setCell ⟨S0 + 1, 0, none⟩ (.int .i64 0)).setCell ⟨S0 + 1, 1, none⟩ (.int .i64 2)).setCell ⟨S0 + 1, 2, none⟩ (.int .i64 0)).setCell ⟨S0 + 1, 3, none⟩ (.slice none 0 0)) := ⟨_, Lib.hid rfl⟩
          rw [← hW8.out] at h8 g8 ⊢
          obtain ⟨⟨j0, j1, j2, j3⟩, _⟩ := cells4_of h8
          refine bodyPost_ret (v := .agg #[.int .i64 0, .int .i64 2, .int .i64 0, .slice none 0 0]) ?_ rfl ?_
          · simp [results, Try.f31, go_sem, j0, j1, j2, j3]
          · exact ⟨0, 2, 0, [], none, 0, 0, rfl, HJJ.out, fitR_nil _ _ _ (Nat.le_refl _), HBF.out.grown g8 HBF.out.size (fun j e => by have := Option.some.inj e; have := HS00.out; omega)⟩
        · subst hv
          have hcap := hRW
          obtain ⟨_, _, hc1, hc2, _⟩ := hcap
          have hc7 : cs7.length ≤ 9223372036854775807 := by unfold maxLen at hc2; omega
          have HRW := Lib.hid hRW
          have hlen := HT8.out.len
          clear hRW hc1 hc2
          match cs7, fs7, hlen, HT8, HRW, HROW8, HJJ, hc7 with
          | [], [], _, HT8, HRW, HROW8, HJJ, _ =>
            obtain ⟨⟨r0, r1, r2, r3⟩, z0, z1, z2, z3⟩ := cells4_of HR8.out
            go_wp2_with fail
            obtain ⟨h8, g8⟩ := out4 HR8.out (.int .i64 0) (.int .i64 2) (.int .i64 0) (.slice none 0 0)
            obtain ⟨W8, hW8⟩ : ∃ W8, Hid (W8 = (((w8.setCell ⟨S0 + 1, 0, none⟩ (.int .i64 0)).setCell ⟨S0 + 1, 1, none⟩ (.int .i64 2)).setCell ⟨S0 + 1, 2, none⟩ (.int .i64 0)).setCell ⟨S0 + 1, 3, none⟩ (.slice none 0 0)) := ⟨_, Lib.hid rfl⟩
            rw [← hW8.out] at h8 g8 ⊢
            obtain ⟨⟨j0, j1, j2, j3⟩, _⟩ := cells4_of h8
            refine bodyPost_ret (v := .agg #[.int .i64 0, .int .i64 2, .int .i64 0, .slice none 0 0]) ?_ rfl ?_
            · simp [results, Try.f31, go_sem, j0, j1, j2, j3]
            · exact ⟨0, 2, 0, [], none, 0, 0, rfl, HJJ.out, fitR_nil _ _ _ (Nat.le_refl _), HBF.out.grown g8 HBF.out.size (fun j e => by have := Option.some.inj e; have := HS00.out; omega)⟩
          | [(q0, q1, q2, (qa, qn, qc))], [f], _, HT8, HRW, HROW8, HJJ, _ =>
            obtain ⟨k0, k1, k2, k3⟩ := HRW.out.four (i := 0) rfl
            simp only [Nat.zero_mul, Nat.zero_add] at k0 k1 k2 k3
            obtain ⟨bs2, lo, hi, e2, hlo, hFR2, _⟩ := HT8.out.each 0 _ _ rfl rfl
            have HFR2 := Lib.hid hFR2
            have HLO := Lib.hid hlo
            have HE2 := Lib.hid e2
            clear hFR2 hlo e2
            obtain ⟨⟨r0, r1, r2, r3⟩, z0, z1, z2, z3⟩ := cells4_of HR8.out
            go_wp2_with fail
            obtain ⟨h8, g8⟩ := out4 HR8.out (.int .i64 q0) (.int .i64 q1) (.int .i64 q2) (.slice qa qn qc)
            obtain ⟨W8, hW8⟩ : ∃ W8, Hid (W8 = (((w8.setCell ⟨S0 + 1, 0, none⟩ (.int .i64 q0)).setCell ⟨S0 + 1, 1, none⟩ (.int .i64 q1)).setCell ⟨S0 + 1, 2, none⟩ (.int .i64 q2)).setCell ⟨S0 + 1, 3, none⟩ (.slice qa qn qc)) := ⟨_, Lib.hid rfl⟩
            rw [← hW8.out] at h8 g8 ⊢
            obtain ⟨⟨j0, j1, j2, j3⟩, _⟩ := cells4_of h8
            refine bodyPost_ret (v := .agg #[.int .i64 q0, .int .i64 q1, .int .i64 q2, .slice qa qn qc]) ?_ rfl ?_
            · simp [results, Try.f31, go_sem, j0, j1, j2, j3]
            · have hs := HS0.out
              have hw := HS00.out
              have hlt5 : S0 + 1 < w5.heap.size := by have := HL5.out; have := HB67.out; have := HSB6.out; omega
              have hlo := HLO.out
              have hkp : Keeps lo hi w8 W8 := Keeps.of_grown g8 HFR2.out.top (fun j e => by have := Option.some.inj e; omega)
              refine ⟨q0, q1, q2, bs2, qa, qn, qc, rfl, ?_, (HFR2.out.keeps hkp).mono (by have := HB5.out.size; omega) (Nat.le_trans HFR2.out.top g8.size) (Nat.le_refl _), HBF.out.grown g8 HBF.out.size (fun j e => by have := Option.some.inj e; have := HS00.out; omega)⟩
              rw [HJJ.out]
              exact HE2.out
          | c1 :: c2 :: cr, f1 :: f2 :: fr, hlen, HT8, HRW, HROW8, HJJ, hc7 =>
            obtain ⟨L, hL⟩ : ∃ L, (c1 :: c2 :: cr).length = L := ⟨_, rfl⟩
            have HLL := Lib.hid hL
            rw [hL] at hc7 ⊢
            have hL0 : ((L : Int) == 0) = false := by rw [← hL]; exact beq_eq_false_iff_ne.2 (by simp; omega)
            have hL1 : ((L : Int) == 1) = false := by rw [← hL]; exact beq_eq_false_iff_ne.2 (by simp; omega)
            clear hL hlen
            obtain ⟨⟨r0, r1, r2, r3⟩, z0, z1, z2, z3⟩ := cells4_of HR8.out
            go_wp2_with fail
            obtain ⟨h8, g8⟩ := out4 HR8.out (.int .i64 2) (.int .i64 0) (.int .i64 0) (.slice (some ⟨g, 0, none⟩) L cap7)
            obtain ⟨W8, hW8⟩ : ∃ W8, Hid (W8 = (((w8.setCell ⟨S0 + 1, 0, none⟩ (.int .i64 2)).setCell ⟨S0 + 1, 1, none⟩ (.int .i64 0)).setCell ⟨S0 + 1, 2, none⟩ (.int .i64 0)).setCell ⟨S0 + 1, 3, none⟩ (.slice (some ⟨g, 0, none⟩) L cap7)) := ⟨_, Lib.hid rfl⟩
            rw [← hW8.out] at h8 g8 ⊢
            obtain ⟨⟨j0, j1, j2, j3⟩, _⟩ := cells4_of h8
            refine bodyPost_ret (v := .agg #[.int .i64 2, .int .i64 0, .int .i64 0, .slice (some ⟨g, 0, none⟩) L cap7]) ?_ rfl ?_
            · simp [results, Try.f31, go_sem, j0, j1, j2, j3]
            · have hs := HS0.out
              have hw := HS00.out
              have hlt5 : S0 + 1 < w5.heap.size := by have := HL5.out; have := HB67.out; have := HSB6.out; omega
              have hN8 := HN8.out
              obtain ⟨a', cap', hv', hFR'⟩ := fitR_of_row HROW8.out HT8.out
              have hll : (f1 :: f2 :: fr).length = L := by rw [← HT8.out.len]; exact HLL.out
              rw [HLL.out] at hv'
              rw [hll] at hv' hFR'
              cases hv'
              have hkp : Keeps w5.heap.size w8.heap.size w8 W8 := Keeps.of_grown g8 (Nat.le_refl _) (fun j e => by have := Option.some.inj e; omega)
              refine ⟨2, 0, 0, f1 :: f2 :: fr, _, _, _, rfl, HJJ.out, (hFR'.keeps hkp).mono (by have := HB5.out.size; omega) g8.size (Nat.le_refl _), HBF.out.grown g8 HBF.out.size (fun j e => by have := Option.some.inj e; have := HS00.out; omega)⟩
      · rw [if_pos rfl] at HJJ
        obtain ⟨⟨r0, r1, r2, r3⟩, z0, z1, z2, z3⟩ := cells4_of HR8.out
        go_wp2_with fail
        obtain ⟨h8, g8⟩ := out4 HR8.out (.int .i64 0) (.int .i64 0) (.int .i64 0) (.slice none 0 0)
        obtain ⟨W8, hW8⟩ : ∃ W8, Hid (W8 = (((w8.setCell ⟨S0 + 1, 0, none⟩ (.int .i64 0)).setCell ⟨S0 + 1, 1, none⟩ (.int .i64 0)).setCell ⟨S0 + 1, 2, none⟩ (.int .i64 0)).setCell ⟨S0 + 1, 3, none⟩ (.slice none 0 0)) := ⟨_, Lib.hid rfl⟩
        rw [← hW8.out] at h8 g8 ⊢
        obtain ⟨⟨j0, j1, j2, j3⟩, _⟩ := cells4_of h8
        refine bodyPost_ret (v := .agg #[.int .i64 0, .int .i64 0, .int .i64 0, .slice none 0 0]) ?_ rfl ?_
        · simp [results, Try.f31, go_sem, j0, j1, j2, j3]
        · exact ⟨0, 0, 0, [], none, 0, 0, rfl, HJJ.out, fitR_nil _ _ _ (Nat.le_refl _), HBF.out.grown g8 HBF.out.size (fun j e => by have := Option.some.inj e; have := HS00.out; omega)⟩
end Go.Proofs.Ytmdanfeilgeoaaa
