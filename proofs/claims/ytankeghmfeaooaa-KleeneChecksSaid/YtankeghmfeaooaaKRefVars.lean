/- The document's Vars of any formula. -/
import Derived.Test.YtankeghmfeaooaaKWalks
import Derived.Test.YtankeghmfeaooaaKVals
import Derived.Test.YtankeghmfeaooaaKVarsLaw
namespace Gim
open Go Go.RowKit
mutual
theorem grtF_up (c : Int) (hc : -1 ≤ c) : ∀ f : Fm, (∀ y ∈ varsF f, y ≤ c) → grtF f ≤ c
  | .mk op v x gs, h => by
    unfold grtF
    unfold varsF at h
    refine grtL_up c hc _ gs ?_ fun y hy => h y (List.mem_append_right _ hy)
    by_cases ho : op = 1
    · rw [if_pos ho] at h ⊢
      exact h x (by simp)
    · rw [if_neg ho]
      exact hc
theorem grtL_up (c : Int) (hc : -1 ≤ c) : ∀ (a : Int) (gs : List Fm), a ≤ c → (∀ y ∈ varsL gs, y ≤ c) → grtL a gs ≤ c
  | a, [], ha, _ => by unfold grtL; exact ha
  | a, f :: r, ha, h => by
    unfold grtL
    unfold varsL at h
    have h1 := grtF_up c hc f fun y hy => h y (List.mem_append_left _ hy)
    exact grtL_up c hc _ r (by omega) fun y hy => h y (List.mem_append_right _ hy)
end
def hv (f : Fm) (q : Nat) : List Int := ((List.range q).map (fun i : Nat => (i : Int))).filter (fun k => hldF k f)
theorem hv_next (f : Fm) (q : Nat) : hv f (q + 1) = hv f q ++ (if hldF q f = true then [(q : Int)] else []) := by
  unfold hv
  rw [List.range_succ, List.map_append, List.filter_append]
  congr 1
  simp only [List.map_cons, List.map_nil, List.filter_cons, List.filter_nil]
theorem hv_len (f : Fm) (q : Nat) : (hv f q).length ≤ q := by
  unfold hv
  refine Nat.le_trans (List.length_filter_le _ _) ?_
  simp
theorem row_kept {w w' : World} {B : Nat} {e : TypeId} {k : IntKind} {v : Value} {xs : List Int} (h : Row w B e k v xs) (hb : Below w.heap.size w w') : Row w' B e k v xs := by
  refine ⟨h.1, ?_⟩
  rcases h.2 with ⟨rfl, h0⟩ | ⟨g, cp, cur, rfl, h1, h2, h3, h4, h5, h6⟩
  · exact .inl ⟨rfl, h0⟩
  · exact .inr ⟨g, cp, cur, rfl, h1, (hb.block g (Array.getElem?_eq_some_iff.1 h2).1).trans h2, h3, h4, h5, h6⟩
end Gim
namespace Go.Proofs.Ytankeghmfeaooaa
open Go.RowKit Gim
set_option maxHeartbeats 4000000 in
theorem refVars_calls (op v x : Int) (gs : List Fm) (a : Option Addr) (n cap : Nat) (w : World) (hF : FitS w gs a n cap) (hI : isB (.mk op v x gs) = true) :
    Calls Try.prog 11 #[.agg #[.int .i64 op, .int .i64 v, .int .i64 x, .slice a n cap]] w fun e w' => ∃ ao cp L, e = .returned (.slice ao (L : List Int).length cp) ∧ Rd w' .i64 ao L.length cp L ∧ L = refVars (.mk op v x gs) ∧ Below w.heap.size w w' := by
  have hb0 : Below w.heap.size w (w.alloc (.cells #[.int .i64 op, .int .i64 v, .int .i64 x, .slice a n cap] 26)) := ((Grows.refl _).alloc _).below
  have hbx := heap_alloc_new w (.cells #[.int .i64 op, .int .i64 v, .int .i64 x, .slice a n cap] 26)
  have hF1 := hF.below hb0
  obtain ⟨W1, hW1⟩ : ∃ W1, w.alloc (.cells #[.int .i64 op, .int .i64 v, .int .i64 x, .slice a n cap] 26) = W1 := ⟨_, rfl⟩
  rw [hW1] at hb0 hbx hF1
  have hsz1 : w.heap.size < W1.heap.size := (Array.getElem?_eq_some_iff.1 hbx).1
  have hG := fun W (h : Below W1.heap.size W1 W) => greatest_calls _ op v x gs a n cap W (Nat.le_refl _) (hF1.below h)
  have hH := fun kk W (h : Below W1.heap.size W1 W) => holds_calls _ op v x gs a n cap kk W (Nat.le_refl _) (hF1.below h)
  have hlo := (grt_le _ hI).1
  have hhi := grtF_up 65535 (by omega) (.mk op v x gs) fun y hy => by have := vars_ok _ hI y hy; omega
  have hRV : hv (.mk op v x gs) (grtF (.mk op v x gs) + 1).toNat = refVars (.mk op v x gs) := rfl
  have hNX := hv_next (.mk op v x gs)
  have hHL := hv_len (.mk op v x gs)
  obtain ⟨R, hR⟩ : ∃ R, refVars (.mk op v x gs) = R := ⟨_, rfl⟩
  rw [hR] at hRV ⊢
  obtain ⟨V, hV⟩ : ∃ V, hv (.mk op v x gs) = V := ⟨_, rfl⟩
  rw [hV] at hRV hNX hHL
  obtain ⟨H, hHH⟩ : ∃ H, (fun k => hldF k (.mk op v x gs)) = H := ⟨_, rfl⟩
  have hHe : ∀ k, hldF k (.mk op v x gs) = H k := fun k => congrFun hHH k
  simp only [hHe] at hH hNX
  obtain ⟨m, hm⟩ : ∃ m : Nat, grtF (.mk op v x gs) = (m : Int) - 1 := ⟨(grtF (.mk op v x gs) + 1).toNat, by omega⟩
  have hV0 : V 0 = [] := by rw [← hV]; rfl
  rw [hm] at hG hRV hhi
  rw [show ((m : Int) - 1 + 1).toNat = m by omega] at hRV
  have hm2 : m ≤ 65536 := by omega
  have HG := Lib.hid hG
  have HH := Lib.hid hH
  have HRV := Lib.hid hRV
  have HNX := Lib.hid hNX
  have HHL := Lib.hid hHL
  have HB0 := Lib.hid hb0
  have HV0 := Lib.hid hV0
  obtain ⟨N, hN⟩ : ∃ N, N = W1.heap.size := ⟨_, rfl⟩
  have hb1 : Below N W1 W1 := Below.refl _ _
  have HN := Lib.hid hN
  clear hF hb0 hF1 hG hH hRV hNX hHL hlo hhi hR hV hHH hHe hm hI hV0
  go_enter Try.func11, Try.ntmps11
  go_upto_region 1 with fail
  try rw [hW1]
  clear hW1
  obtain ⟨B, hB⟩ : ∃ B, w.heap.size = B := ⟨_, rfl⟩
  rw [hB] at hbx hsz1 ⊢
  have HBX := Lib.hid hbx
  have hBN : B < N := by omega
  have HBN := Lib.hid hBN
  have HBE := Lib.hid hB
  clear hbx hB hsz1 hN hBN
  go_wp2_with fail
  go_loopw [3, 4] (fun vv i wr => ∃ (q : Nat) (vl : Value), i = .int .i64 q ∧ vl = vv ∧ q ≤ m ∧ Row wr N 3 .i64 vl (V q) ∧ Below N W1 wr) (fun _ i _ => m - (RowKit.intOf i).toNat)
  case atStart => exact ⟨0, _, rfl, rfl, Nat.zero_le _, by rw [HV0.out]; exact World.ownsRow_nil _ _ _ _, hb1⟩
  case round =>
    obtain ⟨q, vv, rfl, rfl, hq, hrow, hb⟩ := hrel
    have hx : wr.heap[B]? = _ := (hb.block _ HBN.out).trans HBX.out
    have c0 : wr.cell? ⟨B, 0, none⟩ = some (.int .i64 op) := by simp [World.cell?, hx]
    have c1 : wr.cell? ⟨B, 1, none⟩ = some (.int .i64 v) := by simp [World.cell?, hx]
    have c2 : wr.cell? ⟨B, 2, none⟩ = some (.int .i64 x) := by simp [World.cell?, hx]
    have c3 : wr.cell? ⟨B, 3, none⟩ = some (.slice a n cap) := by simp [World.cell?, hx]
    have hC := HG.out wr (by rw [← HN.out]; exact hb)
    have HX := Lib.hid hx
    have HB := Lib.hid hb
    have HR := Lib.hid hrow
    clear hx hb hrow
    by_cases hqm : q < m
    · have hle : decide ((q : Int) ≤ (m : Int) - 1) = true := by simp; omega
      have hle' : (q : Int) ≤ (m : Int) - 1 := by omega
      clear hle
      go_wp2_with fail
      refine hC.mono ?_
      rintro e w2 ⟨rfl, g2⟩
      have hsz : N ≤ wr.heap.size := by have := HB.out.size; have := HN.out; omega
      have hb2 : Below N W1 w2 := HB.out.trans (g2.below.mono hsz)
      have hr2 : Row w2 N 3 .i64 vv (V q) := row_kept HR.out g2.below
      have hx2 : w2.heap[B]? = _ := (hb2.block _ HBN.out).trans HBX.out
      have d0 : w2.cell? ⟨B, 0, none⟩ = some (.int .i64 op) := by simp [World.cell?, hx2]
      have d1 : w2.cell? ⟨B, 1, none⟩ = some (.int .i64 v) := by simp [World.cell?, hx2]
      have d2 : w2.cell? ⟨B, 2, none⟩ = some (.int .i64 x) := by simp [World.cell?, hx2]
      have d3 : w2.cell? ⟨B, 3, none⟩ = some (.slice a n cap) := by simp [World.cell?, hx2]
      have hC2 := HH.out q w2 (by rw [← HN.out]; exact hb2)
      have hNXq := HNX.out q
      have HB2 := Lib.hid hb2
      have HR2 := Lib.hid hr2
      have HSZ2 := Lib.hid (show N ≤ w2.heap.size by have := HB2.out.size; have := HN.out; omega)
      clear hC g2 hb2 hr2 hx2 c0 c1 c2 c3 HX HR hsz
      cases hh : H q
      · rw [hh] at hC2 hNXq
        simp only [Bool.false_eq_true, if_false, List.append_nil] at hNXq
        have HNXq := Lib.hid hNXq
        clear hh hNXq
        go_wp2_with fail
        refine hC2.mono ?_
        rintro e w3 ⟨rfl, g3⟩
        have hr3 : Row w3 N 3 .i64 vv (V q) := row_kept HR2.out g3.below
        have hb3 : Below N W1 w3 := HB2.out.trans (g3.below.mono HSZ2.out)
        clear hC2 g3 d0 d1 d2 d3
        go_wp2_with fail
        go_roundw
        case rel => exact ⟨q + 1, _, by go_num, rfl, by omega, by rw [HNXq.out]; exact hr3, hb3⟩
        case measure => simp [RowKit.intOf]; omega
      · rw [hh] at hC2 hNXq
        simp only [if_true] at hNXq
        have HNXq := Lib.hid hNXq
        have hlq : (V q).length < 1099511627776 := by have := HHL.out q; omega
        clear hh hNXq
        go_wp2_with fail
        refine hC2.mono ?_
        rintro e w3 ⟨rfl, g3⟩
        have hr3 : Row w3 N 3 .i64 vv (V q) := row_kept HR2.out g3.below
        have hb3 : Below N W1 w3 := HB2.out.trans (g3.below.mono HSZ2.out)
        have hs3 : N ≤ w3.heap.size := by have := hb3.size; have := HN.out; omega
        clear hC2 g3 d0 d1 d2 d3
        go_wp2_with (at_builtin; refine append1 _ rfl _ _ 32 rfl N 3 .i64 8 info_int Try.underlying32 vv (V q) rfl hr3 _ rfl hlq (by decide) hs3 ?_; intro v' w4 hown' hgrow')
        have hb4 : Below N W1 w4 := hb3.grown hgrow' hs3 (fun j hj => (hr3.lt j hj).1)
        go_roundw
        case rel => exact ⟨q + 1, _, by go_num, rfl, by omega, by rw [HNXq.out]; exact hown', hb4⟩
        case measure => simp [RowKit.intOf]; omega
    · obtain rfl : q = m := by omega
      have hle : ¬ (q : Int) ≤ (q : Int) - 1 := by omega
      go_wp2_with fail
      refine hC.mono ?_
      rintro e w2 ⟨rfl, g2⟩
      have hsz : N ≤ wr.heap.size := by have := HB.out.size; have := HN.out; omega
      have hb2 : Below N W1 w2 := HB.out.trans (g2.below.mono hsz)
      have hr2 : Row w2 N 3 .i64 vv (V q) := row_kept HR.out g2.below
      clear hC g2 hsz c0 c1 c2 c3
      obtain ⟨ao, cp, rfl, hrd⟩ := hr2.rd
      have HRD := Lib.hid hrd
      have HB2 := Lib.hid hb2
      clear hr2 hrd hb2
      go_wp2_with fail
      go_ret
      exact ⟨ao, cp, V q, rfl, HRD.out, HRV.out, HB0.out.trans (HB2.out.mono (by have := HBE.out; have := HBN.out; omega))⟩
end Go.Proofs.Ytankeghmfeaooaa
