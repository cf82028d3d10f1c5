/- gimletref14.Eval. Printed by wip/mkrefeval.py. -/
import Derived.Test.YtmdanfeilgeoaaaKRefSfy
import Derived.Test.YtmdanfeilgeoaaaKGrows
namespace Gim
open Go Go.RowKit Go.Sort Go.Proofs Go.Lib
theorem evalL_take (vs : List Int) (gs : List Fm) (q : Nat) (f : Fm) (h : gs[q]? = some f) : evalL vs (gs.take (q + 1)) = evalL vs (gs.take q) ++ [evalF vs f] := by
  rw [take_next h, evalL_map, evalL_map, List.map_append]
  rfl
theorem evalL_len (vs : List Int) (l : List Fm) : (evalL vs l).length = l.length := by rw [evalL_map, List.length_map]
end Gim
namespace Go.Proofs.Ytmdanfeilgeoaaa
open Go.RowKit Gim Go.Sort Go.Lib
def EvalRAt (vs : List Int) (va : Option Addr) (vn vc : Nat) (f : Fm) : Prop := ∀ op v x gs a n cap W, f = .mk op v x gs → FitS W gs a n cap → Rd W .i64 va vn vc vs →
  Calls Try.prog 18 #[.agg #[.int .i64 op, .int .i64 v, .int .i64 x, .slice a n cap], .slice va vn vc] W fun e w' => e = .returned (.int .i64 (evalF vs f)) ∧ Below W.heap.size W w'
set_option maxRecDepth 100000 in
set_option maxHeartbeats 16000000 in
theorem eva_step (vs : List Int) (va : Option Addr) (vn vc : Nat) (op v x : Int) (gs : List Fm) (a : Option Addr) (n cap : Nat) (w : World) (hB : isB (.mk op v x gs) = true) (hF : FitS w gs a n cap) (hV : Rd w .i64 va vn vc vs) (hsz : szL gs < 549755813888) (ih : ∀ f ∈ gs, EvalRAt vs va vn vc f) :
    Calls Try.prog 18 #[.agg #[.int .i64 op, .int .i64 v, .int .i64 x, .slice a n cap], .slice va vn vc] w fun e w' => e = .returned (.int .i64 (evalF vs (.mk op v x gs))) ∧ Below w.heap.size w w' := by
  obtain ⟨hL, hcase⟩ := isB_cases hB
  have hnb : n ≤ 9223372036854775807 := by have := hF.le; have := hF.cap_le; unfold maxLen at this; omega
  have hb0 : Below w.heap.size w (w.alloc (.cells #[.int .i64 op, .int .i64 v, .int .i64 x, .slice a n cap] 26)) := (Below.refl _ _).alloc (Nat.le_refl _) _
  have hx0 := heap_alloc_new w (.cells #[.int .i64 op, .int .i64 v, .int .i64 x, .slice a n cap] 26)
  have HLN := Lib.hid hF.len
  have HF := Lib.hid hF
  have HV := Lib.hid hV
  have HSZ := Lib.hid hsz
  have IH := Lib.hid ih
  have HCASE := Lib.hid hcase
  clear hF hV hL hsz ih hcase hB
  go_enter Try.func18, Try.ntmps18
  go_upto_region 1 with fail
  obtain ⟨w0, hw0⟩ : ∃ w0, w.alloc (.cells #[.int .i64 op, .int .i64 v, .int .i64 x, .slice a n cap] 26) = w0 := ⟨_, rfl⟩
  obtain ⟨S0, hS0⟩ : ∃ S0, w.heap.size = S0 := ⟨_, rfl⟩
  rw [hw0] at hb0 hx0 ⊢
  rw [hS0] at hx0
  try rw [hS0]
  obtain ⟨⟨cx0, cx1, cx2, cx3⟩, _⟩ := cells4_of hx0
  have HX0 := Lib.hid hx0
  have HB0 := Lib.hid hb0
  clear hx0 hb0 hS0 hw0
  go_wp2_with fail
  go_loopw [5, 11] (fun vv i wr => ∃ (q : Nat), i = .int .i64 q ∧ q ≤ n ∧ Row wr w0.heap.size 3 .i64 vv (evalL vs (gs.take q)) ∧ Below w0.heap.size w0 wr) (fun _ i _ => n - (RowKit.intOf i).toNat)
  case atStart => exact ⟨0, rfl, Nat.zero_le _, (by rw [List.take_zero]; unfold evalL; exact World.ownsRow_nil _ _ _ _), Below.refl _ _⟩
  case round =>
    obtain ⟨q, rfl, hq, hrow, hbr⟩ := hrel
    by_cases hqn : q < n
    · have hqn' : (q : Int) < n := by omega
      have hbw := HB0.out.trans (hbr.mono HB0.out.size)
      obtain ⟨b, o, op1, v1, x1, bs, a1, n1, cap1, ha, hb, hel, c0, c1, c2, c3, hF2⟩ := (HF.out.below hbw).elem q hqn
      have hmem := List.mem_of_getElem? hel
      have hbR : Below wr.heap.size wr (wr.alloc (.cells #[.int .i64 op1, .int .i64 v1, .int .i64 x1, .slice a1 n1 cap1] 26)) := (Below.refl _ _).alloc (Nat.le_refl _) _
      have hxR := heap_alloc_new wr (.cells #[.int .i64 op1, .int .i64 v1, .int .i64 x1, .slice a1 n1 cap1] 26)
      have hC := IH.out _ hmem op1 v1 x1 bs a1 n1 cap1 (wr.alloc (.cells #[.int .i64 op1, .int .i64 v1, .int .i64 x1, .slice a1 n1 cap1] 26)) rfl (hF2.below hbR) (HV.out.below (hbw.trans (hbR.mono hbw.size)))
      have htk := evalL_take vs gs q _ hel
      have hroom : (evalL vs (gs.take q)).length < 1099511627776 := by
        rw [evalL_len, List.length_take]
        have h2 := fm_len gs
        have := HSZ.out
        have := HLN.out
        omega
      obtain ⟨rf, hrf⟩ : ∃ rf, evalF vs (.mk op1 v1 x1 bs) = rf := ⟨_, rfl⟩
      rw [hrf] at hC htk
      obtain ⟨LQ, hLQ⟩ : ∃ LQ, evalL vs (gs.take q) = LQ := ⟨_, rfl⟩
      rw [hLQ] at htk hroom hrow
      have HTK := Lib.hid htk
      have HROW := Lib.hid hrow
      have HBR := Lib.hid hbr
      subst ha
      clear hmem hel hF2 hrf htk hrow hbr hbw hb hLQ
      go_upto_region 5 with fail
      obtain ⟨R, hR⟩ : ∃ R, Hid (wr.heap.size = R) := ⟨_, Lib.hid rfl⟩
      obtain ⟨wA, hwA⟩ : ∃ wA, wr.alloc (.cells #[.int .i64 op1, .int .i64 v1, .int .i64 x1, .slice a1 n1 cap1] 26) = wA := ⟨_, rfl⟩
      rw [hwA] at hC hbR hxR ⊢
      rw [hR.out] at hxR
      try rw [hR.out]
      obtain ⟨⟨e0, e1, e2, e3⟩, _⟩ := cells4_of hxR
      have HBA := Lib.hid hbR
      have hC2 := hC
      clear hC hwA hbR hxR c0 c1 c2 c3
      go_wp2_with fail
      refine hC2.mono ?_
      rintro e w6 ⟨rfl, hb6⟩
      have hb16 : Below wr.heap.size wr w6 := HBA.out.trans (hb6.mono HBA.out.size)
      have hrow6 := rows_kept HROW.out hb16
      have hN6 : w0.heap.size ≤ w6.heap.size := Nat.le_trans HBR.out.size hb16.size
      have HROW6 := Lib.hid hrow6
      have HB6 := Lib.hid (HBR.out.trans (hb16.mono HBR.out.size))
      clear hC2 e0 e1 e2 e3 hb6 hb16
      go_wp2_with (at_builtin; refine append1_at w6 rfl _ _ 50 rfl w0.heap.size 3 .i64 8 info_int Try.underlying50 u5 LQ rfl hrow6 rf rfl hroom (by decide) hN6 ?_; intro v' w9 hrow9 hgrow9 hown9)
      have HB9 := Lib.hid (HB6.out.grown hgrow9 hN6 (fun j hj => (World.ownsRow.lt HROW6.out j hj).1))
      have HR9 := Lib.hid (show Row w9 w0.heap.size 3 .i64 v' (evalL vs (gs.take (q + 1))) by rw [HTK.out]; exact hrow9)
      clear hgrow9 hown9 hrow6 hrow9
      go_wp2_with fail
      go_roundw
      case rel => exact ⟨q + 1, by go_num, by omega, HR9.out, HB9.out⟩
      case measure => simp [RowKit.intOf]; omega
    · obtain rfl : q = n := by omega
      rw [List.take_of_length_le (by rw [HLN.out]; exact Nat.le_refl _)] at hrow
      have hbw := HB0.out.trans (hbr.mono HB0.out.size)
      have hx := (hbr.block S0 (Array.getElem?_eq_some_iff.1 HX0.out).1).trans HX0.out
      obtain ⟨⟨c0, c1, c2, c3⟩, _⟩ := cells4_of hx
      obtain ⟨ao, cc, hv, hrd⟩ := Row.rd hrow
      have HBE := Lib.hid hbw
      have HVR := Lib.hid (HV.out.below hbw)
      have hla : (evalL vs gs).length ≤ 9223372036854775807 := by have := hrd.le; have := hrd.cap_le; unfold maxLen at this; omega
      subst hv
      clear hbr hbw hx hrow cx0 cx1 cx2 cx3
      rcases HCASE.out with kk | kk | kk | kk
      · obtain ⟨rfl, _⟩ := kk
        go_wp2_with fail
        go_ret
        exact ⟨by unfold evalF; rw [if_pos rfl]; rfl, HBE.out⟩
      · obtain ⟨rfl, _, hx, _⟩ := kk
        have hsv : evalF vs (.mk 1 v x gs) = valB vs x := by unfold evalF; rw [if_neg (by omega), if_pos rfl]
        have hC := value_calls vs va vn vc x wr hx HVR.out
        rw [← hsv] at hC
        clear hsv
        go_wp2_with fail
        refine hC.mono ?_
        rintro e w7 ⟨rfl, rfl⟩
        clear hC
        go_wp2_with fail
        go_ret
        exact ⟨rfl, HBE.out⟩
      · rcases kk.1 with rfl | rfl
        · have hsv : evalF vs (.mk 2 v x gs) = andF (evalL vs gs) := by
            conv => lhs; unfold evalF
            rw [if_neg (by omega), if_neg (by omega), if_neg (by omega), if_pos rfl]
          have hC := all_calls ao _ cc _ wr hrd
          rw [← hsv] at hC
          clear hsv
          go_wp2_with fail
          refine hC.mono ?_
          rintro e w7 ⟨rfl, rfl⟩
          clear hC
          go_wp2_with fail
          go_ret
          exact ⟨rfl, HBE.out⟩
        · have hsv : evalF vs (.mk 3 v x gs) = orF (evalL vs gs) := by
            conv => lhs; unfold evalF
            rw [if_neg (by omega), if_neg (by omega), if_neg (by omega), if_neg (by omega)]
          have hC := any_calls ao _ cc _ wr hrd
          rw [← hsv] at hC
          clear hsv
          go_wp2_with fail
          refine hC.mono ?_
          rintro e w7 ⟨rfl, rfl⟩
          clear hC
          go_wp2_with fail
          go_ret
          exact ⟨rfl, HBE.out⟩
      · obtain ⟨rfl, rfl, rfl, f, rfl⟩ := kk
        have hel : evalL vs [f] = [evalF vs f] := by rw [evalL_map]; rfl
        rw [hel] at hrd hla ⊢
        have hsv : evalF vs (.mk 4 0 0 [f]) = 2 - seenB (evalF vs f) := by
          conv => lhs; unfold evalF
          rw [if_neg (by omega), if_neg (by omega), if_pos rfl, hel]
          rfl
        obtain ⟨b, o, hao, hb, hcl⟩ := hrd.cell 0 (by simp)
        subst hao
        have k0 := hcl 0 (by simp)
        rw [show gt [evalF vs f] 0 = evalF vs f from rfl] at k0
        simp only [Nat.add_zero] at k0
        obtain ⟨t, ht⟩ : ∃ t, evalF vs f = t := ⟨_, rfl⟩
        rw [ht] at k0 hsv
        have hC := turned_calls t wr
        rw [← hsv] at hC
        simp only [List.length_singleton] at hla ⊢
        clear hsv hcl hrd hel
        go_wp2_with fail
        refine hC.mono ?_
        rintro e w7 ⟨rfl, rfl⟩
        clear hC
        go_wp2_with fail
        go_ret
        exact ⟨rfl, HBE.out⟩
/-- gimletref14.Eval of any formula -/
theorem eva_at (vs : List Int) (va : Option Addr) (vn vc : Nat) : ∀ (k : Nat) (f : Fm), SizeOf.sizeOf f ≤ k → isB f = true → szF f < 549755813888 → EvalRAt vs va vn vc f := by
  intro k
  induction k with
  | zero =>
    intro f hk
    obtain ⟨o, v, x, gs⟩ := f
    exact absurd hk (by simp)
  | succ k ih =>
    intro f hk hb hsz op v x gs a n cap W hf hF hV
    subst hf
    obtain ⟨hl, _⟩ := isB_cases hb
    have hs : szL gs < 549755813888 := by simp only [szF] at hsz; omega
    exact eva_step vs va vn vc op v x gs a n cap W hb hF hV hs fun f hf => ih f (by have := List.sizeOf_lt_of_mem hf; simp at hk; omega) ((isL_iff gs).1 hl f hf) (Nat.lt_of_le_of_lt (szF_mem hf) hs)
end Go.Proofs.Ytmdanfeilgeoaaa
