/- gimletref14.Simplify. Printed by wip/mkrefsfy.py. -/
import Derived.Test.YtmdanfeilgeoaaaKRefJoin
import Derived.Test.YtmdanfeilgeoaaaKEvals
namespace Gim
open Go Go.RowKit Go.Sort Go.Proofs Go.Lib
theorem simpL_take' (vs : List Int) (gs : List Fm) (q : Nat) (f : Fm) (h : gs[q]? = some f) : simpL vs (gs.take (q + 1)) = simpL vs (gs.take q) ++ [simpF vs f] := simpL_take vs gs q f h
theorem simpL_len (vs : List Int) : ∀ l, (simpL vs l).length = l.length
  | [] => by unfold simpL; rfl
  | f :: r => by unfold simpL; simp [simpL_len vs r]
end Gim
namespace Go.Proofs.Ytmdanfeilgeoaaa
open Go.RowKit Gim Go.Sort Go.Lib
theorem fitR_of_row0 {W : World} {N : Nat} {v : Value} {cs : List N4} {gs : List Fm} (h : Row4 W N v cs) (k : TwL N W none cs gs) : ∃ a cap, v = .slice a gs.length cap ∧ FitR N W.heap.size W gs a gs.length cap := by
  rcases h.2 with ⟨rfl, h0⟩ | ⟨g, cap, cur, rfl, hb, hg, hn, hc, hs, ht⟩
  · have hl : gs.length = 0 := by rw [← k.len]; exact h0
    have hz : gs = [] := List.eq_nil_of_length_eq_zero hl
    subst hz
    exact ⟨none, 0, rfl, Nat.le_refl _, fun W2 _ => ⟨rfl, Nat.le_refl _, Nat.zero_le _, fun j hj => absurd hj (Nat.not_lt_zero _)⟩⟩
  · have hl := k.len
    refine ⟨some ⟨g, 0, none⟩, cap, by rw [hl], Nat.le_refl _, fun W2 hk => ⟨rfl, by rw [← hl]; exact hn, hc, fun j hj => ⟨g, 0, rfl, fitL_of gs 0 fun i f hi => ?_⟩⟩⟩
    have hgl := (Array.getElem?_eq_some_iff.1 hg).1
    have hgk := hk.2 g hb hgl
    have hic : i < cs.length := by rw [hl]; exact (List.getElem?_eq_some_iff.1 hi).1
    obtain ⟨c, hcc⟩ : ∃ c, cs[i]? = some c := ⟨_, List.getElem?_eq_getElem hic⟩
    obtain ⟨hs2, lo, hi2, e, hN, hF, _⟩ := k.each i c f hcc hi
    have hcell : ∀ m u, m < 4 → (cell4 c)[m]? = some u → W2.cell? ⟨g, 0 + i * 4 + m, none⟩ = some u := fun m u hm hu => by
      have h0 := World.ownsRow.cells (g := g) h rfl (i * 4 + m) u ((cells4_get hcc m hm).trans hu)
      rw [Addr.add_lit] at h0
      rw [show 0 + i * 4 + m = 0 + (i * 4 + m) by omega]
      unfold World.cell? at h0 ⊢
      rw [hgk]
      exact h0
    have hFS := hF.fit W2 (hk.mono hN hF.top)
    rw [e]
    unfold FitA
    exact ⟨Nat.lt_of_lt_of_le hgl hk.1, hcell 0 _ (by omega) rfl, hcell 1 _ (by omega) rfl, hcell 2 _ (by omega) rfl, _, _, _, hcell 3 _ (by omega) rfl, hFS.len, hFS.le, hFS.cap_le, hFS.fit⟩
def SimpRAt (vs : List Int) (va : Option Addr) (vn vc : Nat) (f : Fm) : Prop := ∀ op v x gs a n cap W, f = .mk op v x gs → FitS W gs a n cap → Rd W .i64 va vn vc vs →
  Calls Try.prog 19 #[.agg #[.int .i64 op, .int .i64 v, .int .i64 x, .slice a n cap], .slice va vn vc] W (Simped W (simpF vs f))
set_option maxRecDepth 100000 in
set_option maxHeartbeats 16000000 in
theorem sfy_step (vs : List Int) (va : Option Addr) (vn vc : Nat) (op v x : Int) (gs : List Fm) (a : Option Addr) (n cap : Nat) (w : World) (hB : isB (.mk op v x gs) = true) (hF : FitS w gs a n cap) (hV : Rd w .i64 va vn vc vs) (hgood : goodB vs) (hsz : szL gs < 549755813888) (ih : ∀ f ∈ gs, SimpRAt vs va vn vc f) :
    Calls Try.prog 19 #[.agg #[.int .i64 op, .int .i64 v, .int .i64 x, .slice a n cap], .slice va vn vc] w (Simped w (simpF vs (.mk op v x gs))) := by
  obtain ⟨hL, hcase⟩ := isB_cases hB
  have hnb : n ≤ 9223372036854775807 := by have := hF.le; have := hF.cap_le; unfold maxLen at this; omega
  have hb0 : Below w.heap.size w ((w.alloc (.cells #[.int .i64 op, .int .i64 v, .int .i64 x, .slice a n cap] 26)).alloc (.cells #[.int .i64 0, .int .i64 0, .int .i64 0, .slice none 0 0] 26)) := ((Below.refl _ _).alloc (Nat.le_refl _) _).alloc (by simp) _
  have hs0 : ((w.alloc (.cells #[.int .i64 op, .int .i64 v, .int .i64 x, .slice a n cap] 26)).alloc (.cells #[.int .i64 0, .int .i64 0, .int .i64 0, .slice none 0 0] 26)).heap.size = w.heap.size + 2 := by simp
  have hx0 : ((w.alloc (.cells #[.int .i64 op, .int .i64 v, .int .i64 x, .slice a n cap] 26)).alloc (.cells #[.int .i64 0, .int .i64 0, .int .i64 0, .slice none 0 0] 26)).heap[w.heap.size]? = some (.cells #[.int .i64 op, .int .i64 v, .int .i64 x, .slice a n cap] 26) := (heap_alloc_old _ _ (by simp)).trans (heap_alloc_new _ _)
  have hr0 : ((w.alloc (.cells #[.int .i64 op, .int .i64 v, .int .i64 x, .slice a n cap] 26)).alloc (.cells #[.int .i64 0, .int .i64 0, .int .i64 0, .slice none 0 0] 26)).heap[w.heap.size + 1]? = some (.cells #[.int .i64 0, .int .i64 0, .int .i64 0, .slice none 0 0] 26) := by
    have := heap_alloc_new (w.alloc (.cells #[.int .i64 op, .int .i64 v, .int .i64 x, .slice a n cap] 26)) (.cells #[.int .i64 0, .int .i64 0, .int .i64 0, .slice none 0 0] 26)
    rw [World.size_alloc] at this
    exact this
  have HLN := Lib.hid hF.len
  have HF := Lib.hid hF
  have HV := Lib.hid hV
  have HGOOD := Lib.hid hgood
  have HL := Lib.hid hL
  have HSZ := Lib.hid hsz
  have IH := Lib.hid ih
  have HCASE := Lib.hid hcase
  clear hF hV hgood hL hsz ih hcase hB
  go_enter Try.func19, Try.ntmps19
  go_upto_region 1 with fail
  obtain ⟨w0, hw0⟩ : ∃ w0, (w.alloc (.cells #[.int .i64 op, .int .i64 v, .int .i64 x, .slice a n cap] 26)).alloc (.cells #[.int .i64 0, .int .i64 0, .int .i64 0, .slice none 0 0] 26) = w0 := ⟨_, rfl⟩
  obtain ⟨S0, hS0⟩ : ∃ S0, w.heap.size = S0 := ⟨_, rfl⟩
  rw [hw0] at hb0 hs0 hx0 hr0 ⊢
  rw [hS0] at hs0 hx0 hr0
  try rw [hS0]
  try rw [World.size_alloc, hS0]
  obtain ⟨⟨cx0, cx1, cx2, cx3⟩, _⟩ := cells4_of hx0
  have HX0 := Lib.hid hx0
  have HR0 := Lib.hid hr0
  have HB0 := Lib.hid hb0
  have HS00 := Lib.hid hS0
  have HS0 := Lib.hid hs0
  clear hx0 hr0 hb0 hs0 hS0 hw0
  go_wp2_with fail
  go_loopw [5, 12] (fun vv i wr => ∃ (q : Nat) (cs : List N4), i = .int .i64 q ∧ q ≤ n ∧ Row4 wr w0.heap.size vv cs ∧ TwL w0.heap.size wr vv.ownBlock cs (simpL vs (gs.take q)) ∧ Below w0.heap.size w0 wr) (fun _ i _ => n - (RowKit.intOf i).toNat)
  case atStart => exact ⟨0, [], rfl, Nat.zero_le _, Row4.nil _ _, (by rw [List.take_zero]; unfold simpL; exact TwL.nil _ _ _), Below.refl _ _⟩
  case round =>
    obtain ⟨q, cs, rfl, hq, hrow, htw, hbr⟩ := hrel
    by_cases hqn : q < n
    · have hqn' : (q : Int) < n := by omega
      have hbw := HB0.out.trans (hbr.mono HB0.out.size)
      obtain ⟨b, o, op1, v1, x1, bs, a1, n1, cap1, ha, hb, hel, c0, c1, c2, c3, hF2⟩ := (HF.out.below hbw).elem q hqn
      have hmem := List.mem_of_getElem? hel
      have hbR : Below wr.heap.size wr (wr.alloc (.cells #[.int .i64 op1, .int .i64 v1, .int .i64 x1, .slice a1 n1 cap1] 26)) := (Below.refl _ _).alloc (Nat.le_refl _) _
      have hxR := heap_alloc_new wr (.cells #[.int .i64 op1, .int .i64 v1, .int .i64 x1, .slice a1 n1 cap1] 26)
      have hC := IH.out _ hmem op1 v1 x1 bs a1 n1 cap1 (wr.alloc (.cells #[.int .i64 op1, .int .i64 v1, .int .i64 x1, .slice a1 n1 cap1] 26)) rfl (hF2.below hbR) (HV.out.below (hbw.trans (hbR.mono hbw.size)))
      have htk := simpL_take vs gs q _ hel
      have hroom : cs.length < 1099511627776 := by
        have h1 := htw.len
        rw [simpL_len, List.length_take] at h1
        have h2 := fm_len gs
        have := HSZ.out
        have := HLN.out
        omega
      obtain ⟨rf, hrf⟩ : ∃ rf, simpF vs (.mk op1 v1 x1 bs) = rf := ⟨_, rfl⟩
      rw [hrf] at hC htk
      have HTK := Lib.hid htk
      have HTW := Lib.hid htw
      have HROW := Lib.hid hrow
      have HBR := Lib.hid hbr
      subst ha
      clear hmem hel hF2 hrf htk htw hrow hbr hbw hb
      go_upto_region 5 with fail
      obtain ⟨R, hR⟩ : ∃ R, Hid (wr.heap.size = R) := ⟨_, Lib.hid rfl⟩
      obtain ⟨wA, hwA⟩ : ∃ wA, wr.alloc (.cells #[.int .i64 op1, .int .i64 v1, .int .i64 x1, .slice a1 n1 cap1] 26) = wA := ⟨_, rfl⟩
      rw [hwA] at hC hbR hxR ⊢
      rw [hR.out] at hxR
      try rw [hR.out]
      obtain ⟨⟨e0, e1, e2, e3⟩, _⟩ := cells4_of hxR
      have HBA := Lib.hid hbR
      have hC2 := hC
      clear hC hwA hbR hxR c0 c1 c2 c3
      go_wp2_with fail
      refine hC2.mono ?_
      rintro e w6 ⟨op3, vv, xx, ss, sa, sn, sc, rfl, hre, hFR, hb6⟩
      have hb16 : Below wr.heap.size wr w6 := HBA.out.trans (hb6.mono HBA.out.size)
      have hrow6 := HROW.out.stays hb16
      have hown : ∀ j, u5.ownBlock = some j → j < wA.heap.size := fun j hj => Nat.lt_of_lt_of_le (HROW.out.lt j hj).2 HBA.out.size
      have hN6 : w0.heap.size ≤ w6.heap.size := Nat.le_trans HBR.out.size hb16.size
      have HT6 := Lib.hid ((HTW.out.below hb16).snoc (show Tw w0.heap.size w6 u5.ownBlock (op3, vv, xx, (sa, sn, sc)) (.mk op3 vv xx ss) from ⟨ss, wA.heap.size, w6.heap.size, rfl, Nat.le_trans HBR.out.size HBA.out.size, hFR, fun j hj => .inl (hown j hj)⟩))
      have HROW6 := Lib.hid hrow6
      have HB6 := Lib.hid (HBR.out.trans (hb16.mono HBR.out.size))
      have HRE := Lib.hid hre
      clear hC2 e0 e1 e2 e3 hre hFR hb6 hb16 hown
      go_wp2_with (at_builtin; refine append4_at w6 rfl _ _ rfl w0.heap.size u5 cs rfl hrow6 (op3, vv, xx, (sa, sn, sc)) rfl hroom hN6 ?_; intro v' w9 hrow9 hgrow9 hown9)
      have ht9 := HT6.out.grown hgrow9 hown9
      have HB9 := Lib.hid (HB6.out.grown hgrow9 hN6 (fun j hj => (HROW6.out.lt j hj).1))
      have HT9 := Lib.hid (show TwL w0.heap.size w9 v'.ownBlock (cs ++ [(op3, vv, xx, (sa, sn, sc))]) (simpL vs (gs.take (q + 1))) by rw [HTK.out, HRE.out]; exact ht9)
      clear hgrow9 hown9 hrow6 ht9
      go_wp2_with fail
      go_roundw
      case rel => exact ⟨q + 1, _, by go_num, by omega, hrow9, HT9.out, HB9.out⟩
      case measure => simp [RowKit.intOf]; omega
    · obtain rfl : q = n := by omega
      rw [List.take_of_length_le (by rw [HLN.out]; exact Nat.le_refl _)] at htw
      have hbw := HB0.out.trans (hbr.mono HB0.out.size)
      have hx := (hbr.block S0 (by have := HS0.out; omega)).trans HX0.out
      have hr := (hbr.block (S0 + 1) (by have := HS0.out; omega)).trans HR0.out
      obtain ⟨⟨c0, c1, c2, c3⟩, _⟩ := cells4_of hx
      have HR8 := Lib.hid hr
      have HBE := Lib.hid hbw
      have HRX := HR8
      have HBX := HBE
      have HROW := Lib.hid hrow
      have HTW := Lib.hid htw
      have HVR := Lib.hid (HV.out.below hbw)
      have HNS := Lib.hid hbr.size
      clear hbr hbw hx hr hrow htw cx0 cx1 cx2 cx3
      rcases HCASE.out with kk | kk | kk | kk
      · obtain ⟨rfl, _⟩ := kk
        go_wp2_with fail
        clear HR8 HBE
        refine (constR_calls v wr).mono ?_
        rintro e w8 ⟨rfl, g9⟩
        have HR8 := Lib.hid ((g9.below.block _ (Array.getElem?_eq_some_iff.1 HRX.out).1).trans HRX.out)
        have HBE := Lib.hid (HBX.out.trans (g9.below.mono HBX.out.size))
        clear g9
        obtain ⟨⟨r0, r1, r2, r3⟩, z0, z1, z2, z3⟩ := cells4_of HR8.out
        go_wp2_with fail
        obtain ⟨h8, g8⟩ := out4 HR8.out (.int .i64 0) (.int .i64 v) (.int .i64 0) (.slice none 0 0)
        obtain ⟨W8, hW8⟩ : ∃ W8, Hid (W8 = (((w8.setCell ⟨S0 + 1, 0, none⟩ (.int .i64 0)).setCell ⟨S0 + 1, 1, none⟩ (.int .i64 v)).setCell ⟨S0 + 1, 2, none⟩ (.int .i64 0)).setCell ⟨S0 + 1, 3, none⟩ (.slice none 0 0)) := ⟨_, Lib.hid rfl⟩
        rw [← hW8.out] at h8 g8 ⊢
        obtain ⟨⟨j0, j1, j2, j3⟩, _⟩ := cells4_of h8
        refine bodyPost_ret (v := .agg #[.int .i64 0, .int .i64 v, .int .i64 0, .slice none 0 0]) ?_ rfl ?_
        · simp [results, Try.f19, go_sem, j0, j1, j2, j3]
        · refine ⟨0, v, 0, [], none, 0, 0, rfl, ?_, fitR_nil _ _ _ (Nat.le_refl _), HBE.out.grown g8 HBE.out.size (fun j e => by have := Option.some.inj e; have := HS00.out; omega)⟩
          unfold simpF; rw [if_pos rfl]; rfl
      · obtain ⟨rfl, _, hx, _⟩ := kk
        have hsv : simpF vs (.mk 1 v x gs) = (if valB vs x = 1 then .mk 1 0 x [] else cst (valB vs x)) := by unfold simpF; rw [if_neg (by omega), if_pos rfl]
        have hC := value_calls vs va vn vc x wr hx HVR.out
        obtain ⟨t, ht⟩ : ∃ t, valB vs x = t := ⟨_, rfl⟩
        rw [ht] at hC hsv
        have HSV := Lib.hid hsv
        clear ht hsv
        go_wp2_with fail
        refine hC.mono ?_
        rintro e w7 ⟨rfl, rfl⟩
        clear hC
        by_cases h1 : t = 1
        · subst h1
          clear HRX HBX
          obtain ⟨⟨r0, r1, r2, r3⟩, z0, z1, z2, z3⟩ := cells4_of HR8.out
          go_wp2_with fail
          obtain ⟨h8, g8⟩ := out4 HR8.out (.int .i64 1) (.int .i64 0) (.int .i64 x) (.slice none 0 0)
          obtain ⟨W8, hW8⟩ : ∃ W8, Hid (W8 = (((w7.setCell ⟨S0 + 1, 0, none⟩ (.int .i64 1)).setCell ⟨S0 + 1, 1, none⟩ (.int .i64 0)).setCell ⟨S0 + 1, 2, none⟩ (.int .i64 x)).setCell ⟨S0 + 1, 3, none⟩ (.slice none 0 0)) := ⟨_, Lib.hid rfl⟩
          rw [← hW8.out] at h8 g8 ⊢
          obtain ⟨⟨j0, j1, j2, j3⟩, _⟩ := cells4_of h8
          refine bodyPost_ret (v := .agg #[.int .i64 1, .int .i64 0, .int .i64 x, .slice none 0 0]) ?_ rfl ?_
          · simp [results, Try.f19, go_sem, j0, j1, j2, j3]
          · refine ⟨1, 0, x, [], none, 0, 0, rfl, ?_, fitR_nil _ _ _ (Nat.le_refl _), HBE.out.grown g8 HBE.out.size (fun j e => by have := Option.some.inj e; have := HS00.out; omega)⟩
            rw [HSV.out]; simp
        · have h1' : (t != 1) = true := by simpa using h1
          go_wp2_with fail
          clear HR8 HBE
          refine (constR_calls t w7).mono ?_
          rintro e w8 ⟨rfl, g9⟩
          have HR8 := Lib.hid ((g9.below.block _ (Array.getElem?_eq_some_iff.1 HRX.out).1).trans HRX.out)
          have HBE := Lib.hid (HBX.out.trans (g9.below.mono HBX.out.size))
          clear g9
          obtain ⟨⟨r0, r1, r2, r3⟩, z0, z1, z2, z3⟩ := cells4_of HR8.out
          go_wp2_with fail
          obtain ⟨h8, g8⟩ := out4 HR8.out (.int .i64 0) (.int .i64 t) (.int .i64 0) (.slice none 0 0)
          obtain ⟨W8, hW8⟩ : ∃ W8, Hid (W8 = (((w8.setCell ⟨S0 + 1, 0, none⟩ (.int .i64 0)).setCell ⟨S0 + 1, 1, none⟩ (.int .i64 t)).setCell ⟨S0 + 1, 2, none⟩ (.int .i64 0)).setCell ⟨S0 + 1, 3, none⟩ (.slice none 0 0)) := ⟨_, Lib.hid rfl⟩
          rw [← hW8.out] at h8 g8 ⊢
          obtain ⟨⟨j0, j1, j2, j3⟩, _⟩ := cells4_of h8
          refine bodyPost_ret (v := .agg #[.int .i64 0, .int .i64 t, .int .i64 0, .slice none 0 0]) ?_ rfl ?_
          · simp [results, Try.f19, go_sem, j0, j1, j2, j3]
          · refine ⟨0, t, 0, [], none, 0, 0, rfl, ?_, fitR_nil _ _ _ (Nat.le_refl _), HBE.out.grown g8 HBE.out.size (fun j e => by have := Option.some.inj e; have := HS00.out; omega)⟩
            rw [HSV.out, if_neg h1]; rfl
      · have hsj : simpF vs (.mk op v x gs) = joinF op (simpL vs gs) := by
          conv => lhs; unfold simpF
          rw [if_neg (by omega), if_neg (by omega), if_neg (by omega)]
        have hszl : szL (simpL vs gs) < 549755813888 := Nat.lt_of_le_of_lt (simpL_sz vs gs HL.out) HSZ.out
        have hj : RowR w0.heap.size wr (simpL vs gs) u5 := ⟨_, HROW.out, HTW.out⟩
        rcases kk.1 with rfl | rfl
        · have hC := joined_and w0.heap.size (simpL vs gs) u5 wr hj HNS.out (simpL_nf HGOOD.out gs HL.out) hszl
          clear hj hszl
          rw [← hsj] at hC
          go_wp2_with fail
          refine hC.mono ?_
          rintro e w7 ⟨q0, q1, q2, bs2, qa, qn, qc, lo, hi, rfl, hre, hlo, hF3, hb7, _⟩
          have HRE := Lib.hid hre
          have HLO := Lib.hid hlo
          have HFS := Lib.hid hF3
          have hb7' : Below wr.heap.size wr w7 := hb7
          have HR7 := Lib.hid ((hb7'.block _ (Array.getElem?_eq_some_iff.1 HRX.out).1).trans HRX.out)
          have HB7 := Lib.hid (HBX.out.trans (hb7'.mono HBX.out.size))
          clear hC hre hlo hF3 hb7 hb7' HR8 HBE
          have HR8 := HR7
          have HBE := HB7
          clear HR7 HB7
          obtain ⟨⟨r0, r1, r2, r3⟩, z0, z1, z2, z3⟩ := cells4_of HR8.out
          go_wp2_with fail
          obtain ⟨h8, g8⟩ := out4 HR8.out (.int .i64 q0) (.int .i64 q1) (.int .i64 q2) (.slice qa qn qc)
          obtain ⟨W8, hW8⟩ : ∃ W8, Hid (W8 = (((w7.setCell ⟨S0 + 1, 0, none⟩ (.int .i64 q0)).setCell ⟨S0 + 1, 1, none⟩ (.int .i64 q1)).setCell ⟨S0 + 1, 2, none⟩ (.int .i64 q2)).setCell ⟨S0 + 1, 3, none⟩ (.slice qa qn qc)) := ⟨_, Lib.hid rfl⟩
          rw [← hW8.out] at h8 g8 ⊢
          obtain ⟨⟨j0, j1, j2, j3⟩, _⟩ := cells4_of h8
          refine bodyPost_ret (v := .agg #[.int .i64 q0, .int .i64 q1, .int .i64 q2, .slice qa qn qc]) ?_ rfl ?_
          · simp [results, Try.f19, go_sem, j0, j1, j2, j3]
          · have hkp : Keeps lo hi w7 W8 := Keeps.of_grown g8 HFS.out.top (fun j e => by have := Option.some.inj e; have := HLO.out; have := HS0.out; omega)
            refine ⟨q0, q1, q2, bs2, qa, qn, qc, rfl, HRE.out, (HFS.out.keeps hkp).mono (by have := HB0.out.size; have := HLO.out; omega) (Nat.le_trans HFS.out.top g8.size) (Nat.le_refl _), HBE.out.grown g8 HBE.out.size (fun j e => by have := Option.some.inj e; have := HS00.out; omega)⟩
        · have hC := joined_or w0.heap.size (simpL vs gs) u5 wr hj HNS.out (simpL_nf HGOOD.out gs HL.out) hszl
          clear hj hszl
          rw [← hsj] at hC
          go_wp2_with fail
          refine hC.mono ?_
          rintro e w7 ⟨q0, q1, q2, bs2, qa, qn, qc, lo, hi, rfl, hre, hlo, hF3, hb7, _⟩
          have HRE := Lib.hid hre
          have HLO := Lib.hid hlo
          have HFS := Lib.hid hF3
          have hb7' : Below wr.heap.size wr w7 := hb7
          have HR7 := Lib.hid ((hb7'.block _ (Array.getElem?_eq_some_iff.1 HRX.out).1).trans HRX.out)
          have HB7 := Lib.hid (HBX.out.trans (hb7'.mono HBX.out.size))
          clear hC hre hlo hF3 hb7 hb7' HR8 HBE
          have HR8 := HR7
          have HBE := HB7
          clear HR7 HB7
          obtain ⟨⟨r0, r1, r2, r3⟩, z0, z1, z2, z3⟩ := cells4_of HR8.out
          go_wp2_with fail
          obtain ⟨h8, g8⟩ := out4 HR8.out (.int .i64 q0) (.int .i64 q1) (.int .i64 q2) (.slice qa qn qc)
          obtain ⟨W8, hW8⟩ : ∃ W8, Hid (W8 = (((w7.setCell ⟨S0 + 1, 0, none⟩ (.int .i64 q0)).setCell ⟨S0 + 1, 1, none⟩ (.int .i64 q1)).setCell ⟨S0 + 1, 2, none⟩ (.int .i64 q2)).setCell ⟨S0 + 1, 3, none⟩ (.slice qa qn qc)) := ⟨_, Lib.hid rfl⟩
          rw [← hW8.out] at h8 g8 ⊢
          obtain ⟨⟨j0, j1, j2, j3⟩, _⟩ := cells4_of h8
          refine bodyPost_ret (v := .agg #[.int .i64 q0, .int .i64 q1, .int .i64 q2, .slice qa qn qc]) ?_ rfl ?_
          · simp [results, Try.f19, go_sem, j0, j1, j2, j3]
          · have hkp : Keeps lo hi w7 W8 := Keeps.of_grown g8 HFS.out.top (fun j e => by have := Option.some.inj e; have := HLO.out; have := HS0.out; omega)
            refine ⟨q0, q1, q2, bs2, qa, qn, qc, rfl, HRE.out, (HFS.out.keeps hkp).mono (by have := HB0.out.size; have := HLO.out; omega) (Nat.le_trans HFS.out.top g8.size) (Nat.le_refl _), HBE.out.grown g8 HBE.out.size (fun j e => by have := Option.some.inj e; have := HS00.out; omega)⟩
      · obtain ⟨rfl, rfl, rfl, f, rfl⟩ := kk
        obtain ⟨rf, hrf⟩ : ∃ rf, simpF vs f = rf := ⟨_, rfl⟩
        have HS4 := Lib.hid (show simpF vs (.mk 4 0 0 [f]) = notF rf by rw [simpF_not, hrf])
        have hnf := simp_nf HGOOD.out f ((isL_iff _).1 HL.out f (by simp))
        rw [hrf] at hnf
        have hsl : simpL vs [f] = [rf] := by unfold simpL; unfold simpL; rw [hrf]
        rw [hsl] at HTW
        have hl1 := HTW.out.len
        rcases row4_cases HROW.out with ⟨_, rfl⟩ | ⟨g, cc, hv, hgN, hRW⟩
        · cases hl1
        · obtain ⟨⟨op4, vv, xx, sa, sn, sc⟩, rfl⟩ := List.length_eq_one_iff.1 hl1
          simp only [List.length_singleton] at hv
          subst hv
          obtain ⟨k0, k1, k2, k3⟩ := hRW.four (i := 0) rfl
          simp only [Nat.zero_mul, Nat.zero_add] at k0 k1 k2 k3
          obtain ⟨ss, lo4, hi4, e4, hlo4, hF4, _⟩ := HTW.out.each 0 _ _ rfl rfl
          dsimp only at e4 hF4
          subst e4
          have HRE := HS4
          have HF4 := Lib.hid hF4
          have HLO4 := Lib.hid hlo4
          have HNF := Lib.hid hnf
          clear hF4 hlo4 hnf hsl hl1 hRW hrf HS4
          by_cases h0 : op4 = 0
          · subst h0
            have hT := turned_calls vv wr
            go_wp2_with fail
            refine hT.mono ?_
            rintro e w7 ⟨rfl, rfl⟩
            clear hT
            go_wp2_with fail
            clear HR8 HBE
            refine (constR_calls (2 - seenB vv) w7).mono ?_
            rintro e w8 ⟨rfl, g9⟩
            have HR8 := Lib.hid ((g9.below.block _ (Array.getElem?_eq_some_iff.1 HRX.out).1).trans HRX.out)
            have HBE := Lib.hid (HBX.out.trans (g9.below.mono HBX.out.size))
            clear g9
            obtain ⟨⟨r0, r1, r2, r3⟩, z0, z1, z2, z3⟩ := cells4_of HR8.out
            go_wp2_with fail
            obtain ⟨h8, g8⟩ := out4 HR8.out (.int .i64 0) (.int .i64 (2 - seenB vv)) (.int .i64 0) (.slice none 0 0)
            obtain ⟨W8, hW8⟩ : ∃ W8, Hid (W8 = (((w8.setCell ⟨S0 + 1, 0, none⟩ (.int .i64 0)).setCell ⟨S0 + 1, 1, none⟩ (.int .i64 (2 - seenB vv))).setCell ⟨S0 + 1, 2, none⟩ (.int .i64 0)).setCell ⟨S0 + 1, 3, none⟩ (.slice none 0 0)) := ⟨_, Lib.hid rfl⟩
            rw [← hW8.out] at h8 g8 ⊢
            obtain ⟨⟨j0, j1, j2, j3⟩, _⟩ := cells4_of h8
            refine bodyPost_ret (v := .agg #[.int .i64 0, .int .i64 (2 - seenB vv), .int .i64 0, .slice none 0 0]) ?_ rfl ?_
            · simp [results, Try.f19, go_sem, j0, j1, j2, j3]
            · refine ⟨0, (2 - seenB vv), 0, [], none, 0, 0, rfl, ?_, fitR_nil _ _ _ (Nat.le_refl _), HBE.out.grown g8 HBE.out.size (fun j e => by have := Option.some.inj e; have := HS00.out; omega)⟩
              rw [HRE.out]
              simp [notF, cst]
          · have h0' : (op4 == 0) = false := beq_eq_false_iff_ne.2 h0
            by_cases h4 : op4 = 4
            · subst h4
              obtain ⟨hsh, _⟩ := nf_ar HNF.out
              have hl1 : ss.length = 1 := by rcases hsh with k | k | k | k <;> omega
              obtain ⟨s1, rfl⟩ := List.length_eq_one_iff.1 hl1
              have hsn : 1 = sn := HF4.out.here.len
              subst hsn
              obtain ⟨b2, o2, cs2, ha2, hb2, hcl, hcell, hsub⟩ := HF4.out.elems (by omega)
              subst ha2
              rcases cs2 with _ | ⟨⟨q0, q1, q2, qa, qn, qc⟩, _ | ⟨_, _⟩⟩
              · simp at hcl
              · obtain ⟨m0, m1, m2, m3⟩ := hcell 0 _ rfl
                obtain ⟨bs2, hs2, hFR2⟩ := hsub 0 _ _ rfl rfl
                dsimp only at m0 m1 m2 m3 hs2 hFR2
                simp only [Nat.zero_mul, Nat.add_zero] at m0 m1 m2 m3
                have HFS := Lib.hid hFR2
                have HLO := HLO4
                have HE2 := Lib.hid (show notF (.mk 4 vv xx [s1]) = .mk q0 q1 q2 bs2 by simp [notF, hs2])
                clear hcell hsub hFR2 hs2 hl1 hsh h0
                obtain ⟨⟨r0, r1, r2, r3⟩, z0, z1, z2, z3⟩ := cells4_of HR8.out
                go_wp2_with fail
                obtain ⟨h8, g8⟩ := out4 HR8.out (.int .i64 q0) (.int .i64 q1) (.int .i64 q2) (.slice qa qn qc)
                obtain ⟨W8, hW8⟩ : ∃ W8, Hid (W8 = (((wr.setCell ⟨S0 + 1, 0, none⟩ (.int .i64 q0)).setCell ⟨S0 + 1, 1, none⟩ (.int .i64 q1)).setCell ⟨S0 + 1, 2, none⟩ (.int .i64 q2)).setCell ⟨S0 + 1, 3, none⟩ (.slice qa qn qc)) := ⟨_, Lib.hid rfl⟩
                rw [← hW8.out] at h8 g8 ⊢
                obtain ⟨⟨j0, j1, j2, j3⟩, _⟩ := cells4_of h8
                refine bodyPost_ret (v := .agg #[.int .i64 q0, .int .i64 q1, .int .i64 q2, .slice qa qn qc]) ?_ rfl ?_
                · simp [results, Try.f19, go_sem, j0, j1, j2, j3]
                · have hkp : Keeps lo4 hi4 wr W8 := Keeps.of_grown g8 HFS.out.top (fun j e => by have := Option.some.inj e; have := HLO.out; have := HS0.out; omega)
                  refine ⟨q0, q1, q2, bs2, qa, qn, qc, rfl, ?_, (HFS.out.keeps hkp).mono (by have := HB0.out.size; have := HLO.out; omega) (Nat.le_trans HFS.out.top g8.size) (Nat.le_refl _), HBE.out.grown g8 HBE.out.size (fun j e => by have := Option.some.inj e; have := HS00.out; omega)⟩
                  rw [HRE.out]
                  exact HE2.out
              · simp at hcl
            · have h4' : (op4 == 4) = false := beq_eq_false_iff_ne.2 h4
              obtain ⟨⟨r0, r1, r2, r3⟩, z0, z1, z2, z3⟩ := cells4_of HR8.out
              go_wp2_with fail
              obtain ⟨h8, g8⟩ := out4 HR8.out (.int .i64 4) (.int .i64 0) (.int .i64 0) (.slice (some ⟨g, 0, none⟩) 1 cc)
              obtain ⟨W8, hW8⟩ : ∃ W8, Hid (W8 = (((wr.setCell ⟨S0 + 1, 0, none⟩ (.int .i64 4)).setCell ⟨S0 + 1, 1, none⟩ (.int .i64 0)).setCell ⟨S0 + 1, 2, none⟩ (.int .i64 0)).setCell ⟨S0 + 1, 3, none⟩ (.slice (some ⟨g, 0, none⟩) 1 cc)) := ⟨_, Lib.hid rfl⟩
              rw [← hW8.out] at h8 g8 ⊢
              obtain ⟨⟨j0, j1, j2, j3⟩, _⟩ := cells4_of h8
              refine bodyPost_ret (v := .agg #[.int .i64 4, .int .i64 0, .int .i64 0, .slice (some ⟨g, 0, none⟩) 1 cc]) ?_ rfl ?_
              · simp [results, Try.f19, go_sem, j0, j1, j2, j3]
              · have hne : ∀ j, Value.ownBlock (.slice (some ⟨g, 0, none⟩) 1 cc) = some j → j ≠ S0 + 1 := fun j hj e => by have := (HROW.out.lt j hj).1; have := HS0.out; omega
                have hrow8 := HROW.out.grown g8 hne
                have htw8 : TwL w0.heap.size W8 none [(op4, vv, xx, (sa, sn, sc))] [.mk op4 vv xx ss] := ⟨HTW.out.len, fun i c f k1 k2 => by
                  obtain ⟨gs5, lo5, hi5, e5, hN5, hF5, _⟩ := HTW.out.each i c f k1 k2
                  exact ⟨gs5, lo5, hi5, e5, hN5, hF5.keeps (Keeps.of_grown g8 hF5.top (fun j e => by have := Option.some.inj e; have := HS0.out; omega)), fun j e => (by cases e)⟩⟩
                obtain ⟨a9, c9, hv9, hF9⟩ := fitR_of_row0 hrow8 htw8
                cases hv9
                refine ⟨4, 0, 0, [.mk op4 vv xx ss], _, 1, cc, rfl, ?_, hF9.mono (HB0.out.size) (Nat.le_refl _) (Nat.le_refl _), HBE.out.grown g8 HBE.out.size (fun j e => by have := Option.some.inj e; have := HS00.out; omega)⟩
                rw [HRE.out]
                simp [notF, h0, h4]
/-- gimletref14.Simplify of any formula -/
theorem sfy_at (vs : List Int) (va : Option Addr) (vn vc : Nat) (hgood : goodB vs) : ∀ (k : Nat) (f : Fm), SizeOf.sizeOf f ≤ k → isB f = true → szF f < 549755813888 → SimpRAt vs va vn vc f := by
  intro k
  induction k with
  | zero =>
    intro f hk
    obtain ⟨o, v, x, gs⟩ := f
    exact absurd hk (by simp)
  | succ k ih =>
    intro f hk hb hsz op v x gs a n cap W hf hF hV
    subst hf
    obtain ⟨hl, _⟩ := isB_cases hb
    have hs : szL gs < 549755813888 := by simp only [szF] at hsz; omega
    exact sfy_step vs va vn vc op v x gs a n cap W hb hF hV hgood hs fun f hf => ih f (by have := List.sizeOf_lt_of_mem hf; simp at hk; omega) ((isL_iff gs).1 hl f hf) (Nat.lt_of_le_of_lt (szF_mem hf) hs)
end Go.Proofs.Ytmdanfeilgeoaaa
