/- gimletref14.joined. Printed by wip/mkrefsimp.py. -/
import Derived.Test.YtmdanfeilgeoaaaKRefPut
namespace Gim
open Go Go.RowKit Go.Sort Go.Proofs Go.Lib
/-- a formula in memory from N on -/
def JoinedR (N : Nat) (W : World) (fn : World → Prop) (r : Fm) (e : Ending) (w' : World) : Prop :=
  ∃ op v x gs a n cap lo hi, e = .returned (.agg #[.int .i64 op, .int .i64 v, .int .i64 x, .slice a n cap]) ∧ r = .mk op v x gs ∧ N ≤ lo ∧ FitR lo hi w' gs a n cap ∧ Below W.heap.size W w' ∧ fn w'
/-- the parts of one argument -/
def partsF (op : Int) (a : Fm) : List Fm := if opF a = op then arF a else [a]
theorem partsF_eq (op v x : Int) (gs : List Fm) : partsF op (.mk op v x gs) = gs := if_pos rfl
theorem partsF_ne {op op1 : Int} (h : op1 ≠ op) (v x : Int) (gs : List Fm) : partsF op (.mk op1 v x gs) = [.mk op1 v x gs] := if_neg h
theorem flR_snoc (op : Int) (l : List Fm) (a : Fm) : flR op (l ++ [a]) = flR op l ++ partsF op a := by unfold flR partsF; rw [List.flatMap_append]; simp
/-- what is kept of a list -/
def keepF (op : Int) (l : List Fm) : List Fm := l.filter fun p => !isC (keptV op) p
theorem keepF_snoc (op : Int) (l : List Fm) (p : Fm) : keepF op (l ++ [p]) = keepF op l ++ (if isC (keptV op) p = true then [] else [p]) := by
  unfold keepF
  rw [List.filter_append]
  congr 1
  rw [List.filter_cons]
  cases isC (keptV op) p <;> simp
theorem putAll_snoc (l : List Fm) (p : Fm) : putAll (l ++ [p]) = putF p (putAll l) := by unfold putAll; rw [List.foldl_append]; rfl
theorem putAll_len (l : List Fm) : (putAll l).length ≤ szL l := Nat.le_trans (fm_len _) (putAll_sz l)
theorem joinF_out {op : Int} {l : List Fm} {p : Fm} (h : p ∈ flR op l) (hc : isC (outV op) p = true) : joinF op l = cst (outV op) := by
  unfold joinF
  rw [if_pos (List.any_eq_true.2 ⟨p, h, hc⟩)]
theorem joinF_end {op : Int} {l : List Fm} (h : ∀ p ∈ flR op l, isC (outV op) p = false) : joinF op l = packF op (putAll (keepF op (flR op l))) := by
  unfold joinF
  rw [if_neg (fun hh => by
    obtain ⟨p, hp, hc⟩ := List.any_eq_true.1 hh
    rw [h p hp] at hc
    cases hc)]
  rfl
theorem isC_def (t : Int) (op v x : Int) (gs : List Fm) : isC t (.mk op v x gs) = (decide (op = 0) && decide (v = t)) := rfl
end Gim
namespace Go.Proofs.Ytmdanfeilgeoaaa
open Go.RowKit Gim Go.Sort Go.Lib
/-- the slice's elements, read in whatever world lies behind -/
def PartsAt (N H : Nat) (W : World) (ps : List Fm) (a : Option Addr) (n cap : Nat) : Prop :=
  ps.length = n ∧ n ≤ cap ∧ cap ≤ maxLen ∧ ∀ i f, ps[i]? = some f → ∃ (b o : Nat) (c : N4) (bs : List Fm) (lo hi : Nat), a = some ⟨b, o, none⟩ ∧ b < W.heap.size ∧ f = Fm.mk c.1 c.2.1 c.2.2.1 bs ∧
    W.cell? ⟨b, o + i * 4, none⟩ = some (.int .i64 c.1) ∧ W.cell? ⟨b, o + i * 4 + 1, none⟩ = some (.int .i64 c.2.1) ∧ W.cell? ⟨b, o + i * 4 + 2, none⟩ = some (.int .i64 c.2.2.1) ∧ W.cell? ⟨b, o + i * 4 + 3, none⟩ = some (.slice c.2.2.2.1 c.2.2.2.2.1 c.2.2.2.2.2) ∧ N ≤ lo ∧ hi ≤ H ∧ FitR lo hi W bs c.2.2.2.1 c.2.2.2.2.1 c.2.2.2.2.2
theorem PartsAt.below {N H : Nat} {W W' : World} {ps : List Fm} {a : Option Addr} {n cap : Nat} (h : PartsAt N H W ps a n cap) (hb : Below W.heap.size W W') : PartsAt N H W' ps a n cap := by
  refine ⟨h.1, h.2.1, h.2.2.1, fun i f hf => ?_⟩
  obtain ⟨b, o, c, bs, lo, hi, h1, h2, h3, k0, k1, k2, k3, h4, h6, h5⟩ := h.2.2.2 i f hf
  exact ⟨b, o, c, bs, lo, hi, h1, Nat.lt_of_lt_of_le h2 hb.size, h3, (hb.cell (p := ⟨b, _, none⟩) h2).trans k0, (hb.cell (p := ⟨b, _, none⟩) h2).trans k1, (hb.cell (p := ⟨b, _, none⟩) h2).trans k2, (hb.cell (p := ⟨b, _, none⟩) h2).trans k3, h4, h6, h5.keeps (Keeps.of_below hb h5.top)⟩
theorem partsAt_row {N : Nat} {w : World} {fs : List Fm} {v : Value} (h : RowR N w fs v) : ∃ a cap, v = .slice a fs.length cap ∧ PartsAt N w.heap.size w fs a fs.length cap := by
  obtain ⟨a, cap, h1, h2, h3, h4⟩ := h.elem
  refine ⟨a, cap, h1, rfl, h2, h3, fun i f hf => ?_⟩
  obtain ⟨b, c, bs, lo, hi, k1, k2, k3, k4, k5, k6, k7, k8, k9, k10⟩ := h4 i f hf
  exact ⟨b, 0, c, bs, lo, hi, k1, k2, k3, by rw [Nat.zero_add]; exact k4, by rw [Nat.zero_add]; exact k5, by rw [Nat.zero_add]; exact k6, by rw [Nat.zero_add]; exact k7, k8, k10, k9⟩
theorem partsAt_elems {N H lo hi : Nat} {W : World} {gs : List Fm} {a : Option Addr} {n cap : Nat} (h : FitR lo hi W gs a n cap) (hN : N ≤ lo) (hH : hi ≤ H) (hn : 0 < n) : PartsAt N H W gs a n cap := by
  obtain ⟨b, o, cs, h1, h2, h3, h4, h5⟩ := h.elems hn
  have hF := h.here
  refine ⟨hF.len, hF.le, hF.cap_le, fun i f hf => ?_⟩
  have hi2 : i < cs.length := by have := (List.getElem?_eq_some_iff.1 hf).1; have := hF.len; omega
  have hc : cs[i]? = some cs[i] := List.getElem?_eq_getElem hi2
  obtain ⟨k0, k1, k2, k3⟩ := h4 i _ hc
  obtain ⟨bs, e, hR⟩ := h5 i _ f hc hf
  exact ⟨b, o, cs[i], bs, lo, hi, h1, h2, e, k0, k1, k2, k3, hN, hH, hR⟩
theorem partsAt_one {N H lo hi : Nat} {W : World} {op v x : Int} {gs : List Fm} {a : Option Addr} {n cap b : Nat} {t : TypeId} (h : FitR lo hi W gs a n cap) (hN : N ≤ lo) (hH : hi ≤ H) (hb : W.heap[b]? = some (.cells #[.int .i64 op, .int .i64 v, .int .i64 x, .slice a n cap] t)) : PartsAt N H W [.mk op v x gs] (some ⟨b, 0, none⟩) 1 1 := by
  refine ⟨rfl, Nat.le_refl _, by decide, fun i f hf => ?_⟩
  obtain ⟨⟨k0, k1, k2, k3⟩, _⟩ := cells4_of hb
  match i, hf with
  | 0, hf =>
    cases hf
    exact ⟨b, 0, (op, v, x, (a, n, cap)), gs, lo, hi, rfl, (Array.getElem?_eq_some_iff.1 hb).1, rfl, k0, k1, k2, k3, hN, hH, h⟩
  | i + 1, hf => simp at hf
set_option maxRecDepth 100000 in
set_option maxHeartbeats 16000000 in
theorem joined_or (N : Nat) (fs : List Fm) (vl : Value) (w : World) (hr : RowR N w fs vl) (hN : N ≤ w.heap.size) (hnf : ∀ f ∈ fs, nfF f) (hsz : szL fs < 549755813888) :
    Calls Try.prog 37 #[.int .i64 3, vl] w (JoinedR N w (fun _ => True) (joinF 3 fs)) := by
  obtain ⟨al, cl, hvl, hPA⟩ := partsAt_row hr
  obtain ⟨L, hL⟩ : ∃ L, fs.length = L := ⟨_, rfl⟩
  rw [hL] at hvl hPA
  subst hvl
  have hLb : L ≤ 9223372036854775807 := by have := hPA.2.1; have := hPA.2.2.1; unfold maxLen at this; omega
  have hb0 : Below w.heap.size w (w.alloc (.cells #[.int .i64 0, .int .i64 0, .int .i64 0, .slice none 0 0] 26)) := (Below.refl _ _).alloc (Nat.le_refl _) _
  have hz0 := heap_alloc_new w (.cells #[.int .i64 0, .int .i64 0, .int .i64 0, .slice none 0 0] 26)
  obtain ⟨W1, hW1⟩ : ∃ W1, w.alloc (.cells #[.int .i64 0, .int .i64 0, .int .i64 0, .slice none 0 0] 26) = W1 := ⟨_, rfl⟩
  rw [hW1] at hb0 hz0
  have HPA := Lib.hid (hPA.below hb0)
  have HB0 := Lib.hid hb0
  have HZ0 := Lib.hid hz0
  have HLL := Lib.hid hL
  have HN := Lib.hid hN
  have HNF := Lib.hid hnf
  have HSZ := Lib.hid hsz
  have hO : Hid (outV 3 = 2) := Lib.hid rfl
  have hK : Hid (keptV 3 = 0) := Lib.hid rfl
  have HN1 := Lib.hid (Nat.le_trans hN hb0.size)
  obtain ⟨B, hB⟩ : ∃ B, Hid (w.heap.size = B) := ⟨_, Lib.hid rfl⟩
  rw [hB.out] at HZ0 HPA
  have HBW := Lib.hid (Array.getElem?_eq_some_iff.1 HZ0.out).1
  have HBN : Hid (N ≤ B) := Lib.hid (by rw [← hB.out]; exact hN)
  clear hPA hr hN hnf hsz hb0 hz0 hL
  go_enter Try.func37, Try.ntmps37
  go_upto_region 1 with fail
  try rw [hW1]
  try rw [hB.out]
  clear hW1
  go_wp2_with fail
  go_loopw [7, 17] (fun vv i wr => ∃ (q : Nat), i = .int .i64 q ∧ q ≤ L ∧ Hid (RowQ N B wr (putAll (keepF 3 (flR 3 (fs.take q)))) vv ∧ (∀ p ∈ flR 3 (fs.take q), isC (outV 3) p = false) ∧ Below W1.heap.size W1 wr)) (fun _ i _ => L - (RowKit.intOf i).toNat)
  case atStart => exact ⟨0, rfl, Nat.zero_le _, Lib.hid ⟨RowQ.nil _ _ _, fun p hp => by simp [flR] at hp, Below.refl _ _⟩⟩
  case round =>
    obtain ⟨q, rfl, hq, HM⟩ := hrel
    obtain ⟨hrw, hno, hbr⟩ := HM.out
    have hz := (hbr.block B (Array.getElem?_eq_some_iff.1 HZ0.out).1).trans HZ0.out
    have HZ := Lib.hid hz
    by_cases hqn : q < L
    · have hqn' : (q : Int) < L := by omega
      have hfq : fs[q]? = some (fs[q]'(by have := HLL.out; omega)) := List.getElem?_eq_getElem _
      obtain ⟨b, o, c, bs, lo, hi, hal, hb, hfe, d0, d1, d2, d3, hlo, hhi, hFg⟩ := (HPA.out.below hbr).2.2.2 q _ hfq
      obtain ⟨op1, v1, x1, a1, n1, cap1⟩ := c
      dsimp only at hfe d0 d1 d2 d3 hFg
      rw [hfe] at hfq
      subst hal
      have hnfa : nfF (.mk op1 v1 x1 bs) := HNF.out _ (List.mem_of_getElem? hfq)
      have hnx : flR 3 (fs.take (q + 1)) = flR 3 (fs.take q) ++ partsF 3 (.mk op1 v1 x1 bs) := by rw [take_next hfq, flR_snoc]
      have hszq : szL (flR 3 (fs.take (q + 1))) < 549755813888 := by
        have h1 := szL_flat 3 (fs.take (q + 1))
        have h2 := szL_take_le fs (q + 1)
        have := HSZ.out
        omega
      have hsub : ∀ p ∈ flR 3 (fs.take (q + 1)), p ∈ flR 3 fs := fun p hp => by
        obtain ⟨a, ha, k⟩ := flR_mem.1 hp
        exact flR_mem.2 ⟨a, List.mem_of_mem_take ha, k⟩
      have hgA : Grows wr ((wr.alloc (.cells #[.int .i64 op1, .int .i64 v1, .int .i64 x1, .slice a1 n1 cap1] 26)).alloc (.cells #[.int .i64 op1, .int .i64 v1, .int .i64 x1, .slice a1 n1 cap1] 26)) := ((Grows.refl _).alloc _).alloc _
      have hxA : ((wr.alloc (.cells #[.int .i64 op1, .int .i64 v1, .int .i64 x1, .slice a1 n1 cap1] 26)).alloc (.cells #[.int .i64 op1, .int .i64 v1, .int .i64 x1, .slice a1 n1 cap1] 26)).heap[wr.heap.size]? = some (.cells #[.int .i64 op1, .int .i64 v1, .int .i64 x1, .slice a1 n1 cap1] 26) := (heap_alloc_old _ _ (by simp)).trans (heap_alloc_new _ _)
      have hxA2 : ((wr.alloc (.cells #[.int .i64 op1, .int .i64 v1, .int .i64 x1, .slice a1 n1 cap1] 26)).alloc (.cells #[.int .i64 op1, .int .i64 v1, .int .i64 x1, .slice a1 n1 cap1] 26)).heap[wr.heap.size + 1]? = some (.cells #[.int .i64 op1, .int .i64 v1, .int .i64 x1, .slice a1 n1 cap1] 26) := by
        have := heap_alloc_new (wr.alloc (.cells #[.int .i64 op1, .int .i64 v1, .int .i64 x1, .slice a1 n1 cap1] 26)) (.cells #[.int .i64 op1, .int .i64 v1, .int .i64 x1, .slice a1 n1 cap1] 26)
        rw [World.size_alloc] at this
        exact this
      have HNX := Lib.hid hnx
      have HSQ := Lib.hid hszq
      have HSUB := Lib.hid hsub
      have HNFA := Lib.hid hnfa
      have HLO := Lib.hid hlo
      have HHI := Lib.hid hhi
      have HFG := Lib.hid (hFg.keeps (Keeps.of_below hgA.below hFg.top))
      have HRW := Lib.hid (hrw.below hgA.below)
      have HNO := Lib.hid hno
      have HBR := Lib.hid (hbr.trans (hgA.below.mono hbr.size))
      clear hfq hfe hb hlo hhi hFg hnfa hnx hszq hsub hrw hno hbr HM hz
      go_upto_region 10 with fail
      obtain ⟨wA, hwA⟩ : ∃ wA, (wr.alloc (.cells #[.int .i64 op1, .int .i64 v1, .int .i64 x1, .slice a1 n1 cap1] 26)).alloc (.cells #[.int .i64 op1, .int .i64 v1, .int .i64 x1, .slice a1 n1 cap1] 26) = wA := ⟨_, rfl⟩
      rw [hwA] at hgA hxA hxA2 HFG HRW HBR ⊢
      obtain ⟨A, hA⟩ : ∃ A, Hid (wr.heap.size = A) := ⟨_, Lib.hid rfl⟩
      rw [hA.out] at hxA hxA2
      try rw [hA.out]
      try rw [World.size_alloc, hA.out]
      obtain ⟨⟨e0, e1, e2, e3⟩, _⟩ := cells4_of hxA
      have HXA2 := Lib.hid hxA2
      clear hwA hxA hxA2 hgA d0 d1 d2 d3
      have hparts : ∃ pa pn pc, (op1 = 3 → a1 = pa ∧ n1 = pn ∧ cap1 = pc) ∧ (op1 ≠ 3 → pa = some ⟨A + 1, 0, none⟩ ∧ pn = 1 ∧ pc = 1) ∧ PartsAt N B wA (partsF 3 (.mk op1 v1 x1 bs)) pa pn pc := by
        by_cases ho : op1 = 3
        · refine ⟨a1, n1, cap1, fun _ => ⟨rfl, rfl, rfl⟩, fun h => absurd ho h, ?_⟩
          subst ho
          have hsh := (nf_ar HNFA.out).1
          have hl2 : 2 ≤ bs.length := by rcases hsh with k | k | k | k <;> omega
          have hfl := HFG.out.here.len
          have : partsF 3 (.mk 3 v1 x1 bs) = bs := partsF_eq _ _ _ _
          rw [this]
          exact partsAt_elems HFG.out HLO.out HHI.out (by omega)
        · refine ⟨some ⟨A + 1, 0, none⟩, 1, 1, fun h => absurd h ho, fun _ => ⟨rfl, rfl, rfl⟩, ?_⟩
          have : partsF 3 (.mk op1 v1 x1 bs) = [.mk op1 v1 x1 bs] := partsF_ne ho _ _ _
          rw [this]
          exact partsAt_one HFG.out HLO.out HHI.out HXA2.out
      obtain ⟨pa, pn, pc, hp1, hp2, hP⟩ := hparts
      have HP := Lib.hid hP
      have hpb : pn ≤ 9223372036854775807 := by have := hP.2.1; have := hP.2.2.1; unfold maxLen at this; omega
      clear hP
      by_cases ho : op1 = 3
      · obtain ⟨rfl, rfl, rfl⟩ := hp1 ho
        subst ho
        clear hp1 hp2
        go_wp2_with fail
        have HFE0 := HFG
        clear HFG
        obtain ⟨PS, hPS⟩ : ∃ PS, partsF 3 (.mk 3 v1 x1 bs) = PS := ⟨_, rfl⟩
        obtain ⟨FS, hFS⟩ : ∃ FS, flR 3 (fs.take q) = FS := ⟨_, rfl⟩
        rw [hPS] at HP HNX
        rw [hFS] at HNX HRW HNO
        have HPS := Lib.hid hPS
        clear hPS hFS
        go_loopw [7, 31] (fun vv i wr => ∃ (p : Nat), i = .int .i64 p ∧ p ≤ n1 ∧ Hid (RowQ N B wr (putAll (keepF 3 (FS ++ PS.take p))) vv ∧ (∀ z ∈ FS ++ PS.take p, isC (outV 3) z = false) ∧ Below wA.heap.size wA wr)) (fun _ i _ => n1 - (RowKit.intOf i).toNat)
        case atStart => exact ⟨0, rfl, Nat.zero_le _, Lib.hid ⟨by rw [List.take_zero, List.append_nil]; exact HRW.out, by rw [List.take_zero, List.append_nil]; exact HNO.out, Below.refl _ _⟩⟩
        case round =>
          obtain ⟨p, rfl, hp, HM⟩ := hrel
          obtain ⟨hrw, hno, hbr⟩ := HM.out
          have hW := HBR.out.trans (hbr.mono HBR.out.size)
          by_cases hpn : p < n1
          · have hpn' : (p : Int) < n1 := by omega
            have hfp : PS[p]? = some (PS[p]'(by have := HP.out.1; omega)) := List.getElem?_eq_getElem _
            obtain ⟨b2, o2, c2, bs2, lo2, hi2, hal2, hb2, hfe2, d0, d1, d2, d3, hlo2, hhi2, hFg2⟩ := (HP.out.below hbr).2.2.2 p _ hfp
            obtain ⟨op2, v2, x2, a2, n2, cap2⟩ := c2
            dsimp only at hfe2 d0 d1 d2 d3 hFg2
            rw [hfe2] at hfp
            subst hal2
            have hnx2 : FS ++ PS.take (p + 1) = (FS ++ PS.take p) ++ [.mk op2 v2 x2 bs2] := by rw [take_next hfp, List.append_assoc]
            have hlen : (putAll (keepF 3 (FS ++ PS.take p))).length < 549755813888 := by
              have h1 := putAll_len (keepF 3 (FS ++ PS.take p))
              have h2 : szL (keepF 3 (FS ++ PS.take p)) ≤ szL (FS ++ PS.take p) := szL_filter _ _
              have h3 := HSQ.out
              have h4 := szL_take_le PS p
              rw [HNX.out, szL_app] at h3
              rw [szL_app] at h2
              omega
            have hgB : Grows wr (wr.alloc (.cells #[.int .i64 op2, .int .i64 v2, .int .i64 x2, .slice a2 n2 cap2] 26)) := (Grows.refl _).alloc _
            have hxB := heap_alloc_new wr (.cells #[.int .i64 op2, .int .i64 v2, .int .i64 x2, .slice a2 n2 cap2] 26)
            have hz2 := ((hW.trans (hgB.below.mono hW.size)).block B (Array.getElem?_eq_some_iff.1 HZ0.out).1).trans HZ0.out
            have HFP := Lib.hid hfp
            have HNX2 := Lib.hid hnx2
            have HLEN := Lib.hid hlen
            have HLO2 := Lib.hid hlo2
            have HHI2 := Lib.hid hhi2
            have HFG2 := Lib.hid (hFg2.keeps (Keeps.of_below hgB.below hFg2.top))
            have HRW2 := Lib.hid (hrw.below hgB.below)
            have HNO2 := Lib.hid hno
            have HBR2 := Lib.hid (hbr.trans (hgB.below.mono hbr.size))
            have HBRW := Lib.hid (hW.trans (hgB.below.mono hW.size))
            have HZ2 := Lib.hid hz2
            clear hfp hfe2 hb2 hlo2 hhi2 hFg2 hnx2 hlen hrw hno hbr hW hz2 HM
            go_upto_region 15 with fail
            obtain ⟨wB, hwB⟩ : ∃ wB, wr.alloc (.cells #[.int .i64 op2, .int .i64 v2, .int .i64 x2, .slice a2 n2 cap2] 26) = wB := ⟨_, rfl⟩
            rw [hwB] at hgB hxB HFG2 HRW2 HBR2 HBRW HZ2 ⊢
            obtain ⟨B2, hB2⟩ : ∃ B2, Hid (wr.heap.size = B2) := ⟨_, Lib.hid rfl⟩
            rw [hB2.out] at hxB
            try rw [hB2.out]
            obtain ⟨⟨f0, f1, f2, f3⟩, _⟩ := cells4_of hxB
            clear hwB hxB hgB d0 d1 d2 d3
            have hsz2 := HBRW.out.size
            by_cases h0 : op2 = 0
            · subst h0
              by_cases h1 : v2 = 2
              · subst h1
                have hC := constR_calls 2 wB
                go_wp2_with fail
                refine hC.mono ?_
                rintro e w8 ⟨rfl, g8⟩
                have HZ8 := Lib.hid ((g8.below.block B (Array.getElem?_eq_some_iff.1 HZ2.out).1).trans HZ2.out)
                have HBE := Lib.hid (HB0.out.trans (HBRW.out.mono HB0.out.size) |>.trans (g8.below.mono (Nat.le_trans HB0.out.size HBRW.out.size)))
                clear hC g8 f0 f1 f2 f3 e0 e1 e2 e3
                obtain ⟨⟨r0, r1, r2, r3⟩, z0, z1, z2, z3⟩ := cells4_of HZ8.out
                go_wp2_with fail
                obtain ⟨h8, g8⟩ := out4 HZ8.out (.int .i64 0) (.int .i64 2) (.int .i64 0) (.slice none 0 0)
                obtain ⟨W8, hW8⟩ : ∃ W8, Hid (W8 = (((w8.setCell ⟨B, 0, none⟩ (.int .i64 0)).setCell ⟨B, 1, none⟩ (.int .i64 2)).setCell ⟨B, 2, none⟩ (.int .i64 0)).setCell ⟨B, 3, none⟩ (.slice none 0 0)) := ⟨_, Lib.hid rfl⟩
                rw [← hW8.out] at h8 g8 ⊢
                obtain ⟨⟨j0, j1, j2, j3⟩, _⟩ := cells4_of h8
                refine bodyPost_ret (v := .agg #[.int .i64 0, .int .i64 2, .int .i64 0, .slice none 0 0]) ?_ rfl ?_
                · simp [results, Try.f37, go_sem, j0, j1, j2, j3]
                · refine ⟨0, 2, 0, [], none, 0, 0, W8.heap.size, W8.heap.size, rfl, ?_, Nat.le_trans HN.out (Nat.le_trans HBE.out.size g8.size), fitR_nil _ _ _ (Nat.le_refl _), HBE.out.grown g8 HBE.out.size (fun j e => by have := Option.some.inj e; have := hB.out; omega), trivial⟩
                  exact joinF_out (HSUB.out _ (by rw [HNX.out]; exact List.mem_append_right _ (List.mem_of_getElem? HFP.out))) (by rw [hO.out]; simp [isC_def])
              · have h1' : (v2 == 2) = false := beq_eq_false_iff_ne.2 h1
                have hno3 : isC (outV 3) (.mk 0 v2 x2 bs2) = false := by rw [hO.out, isC_def]; simp [h1]
                have HNO3 := Lib.hid (show ∀ z ∈ FS ++ PS.take (p + 1), isC (outV 3) z = false from fun z hz => by
                  rw [HNX2.out] at hz
                  rcases List.mem_append.1 hz with hz | hz
                  · exact HNO2.out z hz
                  · rw [List.mem_singleton.1 hz]
                    exact hno3)
                clear h1 hno3
                by_cases h2 : v2 = 0
                · subst h2
                  have HRW3 := Lib.hid (show RowQ N B wB (putAll (keepF 3 (FS ++ PS.take (p + 1)))) u7 by
                    rw [HNX2.out, keepF_snoc, if_pos (by rw [hK.out, isC_def]; simp), List.append_nil]
                    exact HRW2.out)
                  go_wp2_with fail
                  go_roundw
                  case rel => exact ⟨p + 1, by go_num, by omega, Lib.hid ⟨HRW3.out, HNO3.out, HBR2.out⟩⟩
                  case measure => simp [RowKit.intOf]; omega
                · have h2' : (v2 != 0) = true := by simpa using h2
                  have HKP := Lib.hid (show keepF 3 (FS ++ PS.take (p + 1)) = keepF 3 (FS ++ PS.take p) ++ [.mk 0 v2 x2 bs2] by
                    rw [HNX2.out, keepF_snoc, if_neg (by rw [hK.out, isC_def]; simp [h2])])
                  clear h2
                  have hC := put_calls N B (putAll (keepF 3 (FS ++ PS.take p))) u7 0 v2 x2 bs2 a2 n2 cap2 lo2 hi2 wB HRW2.out (Nat.le_trans HN1.out hsz2) (Nat.lt_of_lt_of_le HBW.out hsz2) HLO2.out HHI2.out HFG2.out HLEN.out
                  go_wp2_with fail
                  refine hC.mono ?_
                  rintro e w9 ⟨vl', rfl, hR9, hb9⟩
                  have HR9 := Lib.hid (show RowQ N B w9 (putAll (keepF 3 (FS ++ PS.take (p + 1)))) vl' by rw [HKP.out, putAll_snoc]; exact hR9)
                  have HB9 := Lib.hid (HBR2.out.trans (hb9.mono HBR2.out.size))
                  clear hC hR9 hb9 f0 f1 f2 f3
                  go_wp2_with fail
                  go_roundw
                  case rel => exact ⟨p + 1, by go_num, by omega, Lib.hid ⟨HR9.out, HNO3.out, HB9.out⟩⟩
                  case measure => simp [RowKit.intOf]; omega
            · have h0' : (op2 == 0) = false := beq_eq_false_iff_ne.2 h0
              have h0'' : (op2 != 0) = true := by simpa using h0
              have HNO3 := Lib.hid (show ∀ z ∈ FS ++ PS.take (p + 1), isC (outV 3) z = false from fun z hz => by
                rw [HNX2.out] at hz
                rcases List.mem_append.1 hz with hz | hz
                · exact HNO2.out z hz
                · rw [List.mem_singleton.1 hz, isC_def]
                  simp [h0])
              have HKP := Lib.hid (show keepF 3 (FS ++ PS.take (p + 1)) = keepF 3 (FS ++ PS.take p) ++ [.mk op2 v2 x2 bs2] by
                rw [HNX2.out, keepF_snoc, if_neg (by rw [isC_def]; simp [h0])])
              clear h0
              have hC := put_calls N B (putAll (keepF 3 (FS ++ PS.take p))) u7 op2 v2 x2 bs2 a2 n2 cap2 lo2 hi2 wB HRW2.out (Nat.le_trans HN1.out hsz2) (Nat.lt_of_lt_of_le HBW.out hsz2) HLO2.out HHI2.out HFG2.out HLEN.out
              go_wp2_with fail
              refine hC.mono ?_
              rintro e w9 ⟨vl', rfl, hR9, hb9⟩
              have HR9 := Lib.hid (show RowQ N B w9 (putAll (keepF 3 (FS ++ PS.take (p + 1)))) vl' by rw [HKP.out, putAll_snoc]; exact hR9)
              have HB9 := Lib.hid (HBR2.out.trans (hb9.mono HBR2.out.size))
              clear hC hR9 hb9 f0 f1 f2 f3
              go_wp2_with fail
              go_roundw
              case rel => exact ⟨p + 1, by go_num, by omega, Lib.hid ⟨HR9.out, HNO3.out, HB9.out⟩⟩
              case measure => simp [RowKit.intOf]; omega
          · have hpe : p = n1 := by omega
            have hpn' : ¬ ((p : Int) < n1) := by omega
            rw [hpe] at hrw hno
            have hps : PS.take n1 = PS := List.take_of_length_le (by rw [HP.out.1]; exact Nat.le_refl _)
            rw [hps] at hrw hno
            have HRW3 := Lib.hid (show RowQ N B wr (putAll (keepF 3 (flR 3 (fs.take (q + 1))))) u7 by rw [HNX.out]; exact hrw)
            have HNO3 := Lib.hid (show ∀ z ∈ flR 3 (fs.take (q + 1)), isC (outV 3) z = false by rw [HNX.out]; exact hno)
            have HW := Lib.hid hW
            clear hps hpe hrw hno hbr HM hW
            go_wp2_with fail
            go_roundw
            case rel => exact ⟨q + 1, by go_num, by omega, Lib.hid ⟨HRW3.out, HNO3.out, HW.out⟩⟩
            case measure => simp [RowKit.intOf]; omega
      · have ho' : (op1 == 3) = false := beq_eq_false_iff_ne.2 ho
        obtain ⟨rfl, rfl, rfl⟩ := hp2 ho
        clear hp1 hp2
        go_wp2_with fail
        have HFE0 := HFG
        clear HFG
        obtain ⟨PS, hPS⟩ : ∃ PS, partsF 3 (.mk op1 v1 x1 bs) = PS := ⟨_, rfl⟩
        obtain ⟨FS, hFS⟩ : ∃ FS, flR 3 (fs.take q) = FS := ⟨_, rfl⟩
        rw [hPS] at HP HNX
        rw [hFS] at HNX HRW HNO
        have HPS := Lib.hid hPS
        clear hPS hFS
        go_loopw [7, 31] (fun vv i wr => ∃ (p : Nat), i = .int .i64 p ∧ p ≤ 1 ∧ Hid (RowQ N B wr (putAll (keepF 3 (FS ++ PS.take p))) vv ∧ (∀ z ∈ FS ++ PS.take p, isC (outV 3) z = false) ∧ Below wA.heap.size wA wr)) (fun _ i _ => 1 - (RowKit.intOf i).toNat)
        case atStart => exact ⟨0, rfl, Nat.zero_le _, Lib.hid ⟨by rw [List.take_zero, List.append_nil]; exact HRW.out, by rw [List.take_zero, List.append_nil]; exact HNO.out, Below.refl _ _⟩⟩
        case round =>
          obtain ⟨p, rfl, hp, HM⟩ := hrel
          obtain ⟨hrw, hno, hbr⟩ := HM.out
          have hW := HBR.out.trans (hbr.mono HBR.out.size)
          by_cases hpn : p < 1
          · have hpn' : (p : Int) < 1 := by omega
            have hfp : PS[p]? = some (PS[p]'(by have := HP.out.1; omega)) := List.getElem?_eq_getElem _
            obtain ⟨b2, o2, c2, bs2, lo2, hi2, hal2, hb2, hfe2, d0, d1, d2, d3, hlo2, hhi2, hFg2⟩ := (HP.out.below hbr).2.2.2 p _ hfp
            obtain ⟨op2, v2, x2, a2, n2, cap2⟩ := c2
            dsimp only at hfe2 d0 d1 d2 d3 hFg2
            rw [hfe2] at hfp
            cases hal2
            simp only [Nat.zero_add] at d0 d1 d2 d3
            have hnx2 : FS ++ PS.take (p + 1) = (FS ++ PS.take p) ++ [.mk op2 v2 x2 bs2] := by rw [take_next hfp, List.append_assoc]
            have hlen : (putAll (keepF 3 (FS ++ PS.take p))).length < 549755813888 := by
              have h1 := putAll_len (keepF 3 (FS ++ PS.take p))
              have h2 : szL (keepF 3 (FS ++ PS.take p)) ≤ szL (FS ++ PS.take p) := szL_filter _ _
              have h3 := HSQ.out
              have h4 := szL_take_le PS p
              rw [HNX.out, szL_app] at h3
              rw [szL_app] at h2
              omega
            have hgB : Grows wr (wr.alloc (.cells #[.int .i64 op2, .int .i64 v2, .int .i64 x2, .slice a2 n2 cap2] 26)) := (Grows.refl _).alloc _
            have hxB := heap_alloc_new wr (.cells #[.int .i64 op2, .int .i64 v2, .int .i64 x2, .slice a2 n2 cap2] 26)
            have hz2 := ((hW.trans (hgB.below.mono hW.size)).block B (Array.getElem?_eq_some_iff.1 HZ0.out).1).trans HZ0.out
            have HFP := Lib.hid hfp
            have HNX2 := Lib.hid hnx2
            have HLEN := Lib.hid hlen
            have HLO2 := Lib.hid hlo2
            have HHI2 := Lib.hid hhi2
            have HFG2 := Lib.hid (hFg2.keeps (Keeps.of_below hgB.below hFg2.top))
            have HRW2 := Lib.hid (hrw.below hgB.below)
            have HNO2 := Lib.hid hno
            have HBR2 := Lib.hid (hbr.trans (hgB.below.mono hbr.size))
            have HBRW := Lib.hid (hW.trans (hgB.below.mono hW.size))
            have HZ2 := Lib.hid hz2
            clear hfp hfe2 hb2 hlo2 hhi2 hFg2 hnx2 hlen hrw hno hbr hW hz2 HM
            go_upto_region 15 with fail
            obtain ⟨wB, hwB⟩ : ∃ wB, wr.alloc (.cells #[.int .i64 op2, .int .i64 v2, .int .i64 x2, .slice a2 n2 cap2] 26) = wB := ⟨_, rfl⟩
            rw [hwB] at hgB hxB HFG2 HRW2 HBR2 HBRW HZ2 ⊢
            obtain ⟨B2, hB2⟩ : ∃ B2, Hid (wr.heap.size = B2) := ⟨_, Lib.hid rfl⟩
            rw [hB2.out] at hxB
            try rw [hB2.out]
            obtain ⟨⟨f0, f1, f2, f3⟩, _⟩ := cells4_of hxB
            clear hwB hxB hgB d0 d1 d2 d3
            have hsz2 := HBRW.out.size
            by_cases h0 : op2 = 0
            · subst h0
              by_cases h1 : v2 = 2
              · subst h1
                have hC := constR_calls 2 wB
                go_wp2_with fail
                refine hC.mono ?_
                rintro e w8 ⟨rfl, g8⟩
                have HZ8 := Lib.hid ((g8.below.block B (Array.getElem?_eq_some_iff.1 HZ2.out).1).trans HZ2.out)
                have HBE := Lib.hid (HB0.out.trans (HBRW.out.mono HB0.out.size) |>.trans (g8.below.mono (Nat.le_trans HB0.out.size HBRW.out.size)))
                clear hC g8 f0 f1 f2 f3 e0 e1 e2 e3
                obtain ⟨⟨r0, r1, r2, r3⟩, z0, z1, z2, z3⟩ := cells4_of HZ8.out
                go_wp2_with fail
                obtain ⟨h8, g8⟩ := out4 HZ8.out (.int .i64 0) (.int .i64 2) (.int .i64 0) (.slice none 0 0)
                obtain ⟨W8, hW8⟩ : ∃ W8, Hid (W8 = (((w8.setCell ⟨B, 0, none⟩ (.int .i64 0)).setCell ⟨B, 1, none⟩ (.int .i64 2)).setCell ⟨B, 2, none⟩ (.int .i64 0)).setCell ⟨B, 3, none⟩ (.slice none 0 0)) := ⟨_, Lib.hid rfl⟩
                rw [← hW8.out] at h8 g8 ⊢
                obtain ⟨⟨j0, j1, j2, j3⟩, _⟩ := cells4_of h8
                refine bodyPost_ret (v := .agg #[.int .i64 0, .int .i64 2, .int .i64 0, .slice none 0 0]) ?_ rfl ?_
                · simp [results, Try.f37, go_sem, j0, j1, j2, j3]
                · refine ⟨0, 2, 0, [], none, 0, 0, W8.heap.size, W8.heap.size, rfl, ?_, Nat.le_trans HN.out (Nat.le_trans HBE.out.size g8.size), fitR_nil _ _ _ (Nat.le_refl _), HBE.out.grown g8 HBE.out.size (fun j e => by have := Option.some.inj e; have := hB.out; omega), trivial⟩
                  exact joinF_out (HSUB.out _ (by rw [HNX.out]; exact List.mem_append_right _ (List.mem_of_getElem? HFP.out))) (by rw [hO.out]; simp [isC_def])
              · have h1' : (v2 == 2) = false := beq_eq_false_iff_ne.2 h1
                have hno3 : isC (outV 3) (.mk 0 v2 x2 bs2) = false := by rw [hO.out, isC_def]; simp [h1]
                have HNO3 := Lib.hid (show ∀ z ∈ FS ++ PS.take (p + 1), isC (outV 3) z = false from fun z hz => by
                  rw [HNX2.out] at hz
                  rcases List.mem_append.1 hz with hz | hz
                  · exact HNO2.out z hz
                  · rw [List.mem_singleton.1 hz]
                    exact hno3)
                clear h1 hno3
                by_cases h2 : v2 = 0
                · subst h2
                  have HRW3 := Lib.hid (show RowQ N B wB (putAll (keepF 3 (FS ++ PS.take (p + 1)))) u7 by
                    rw [HNX2.out, keepF_snoc, if_pos (by rw [hK.out, isC_def]; simp), List.append_nil]
                    exact HRW2.out)
                  go_wp2_with fail
                  go_roundw
                  case rel => exact ⟨p + 1, by go_num, by omega, Lib.hid ⟨HRW3.out, HNO3.out, HBR2.out⟩⟩
                  case measure => simp [RowKit.intOf]; omega
                · have h2' : (v2 != 0) = true := by simpa using h2
                  have HKP := Lib.hid (show keepF 3 (FS ++ PS.take (p + 1)) = keepF 3 (FS ++ PS.take p) ++ [.mk 0 v2 x2 bs2] by
                    rw [HNX2.out, keepF_snoc, if_neg (by rw [hK.out, isC_def]; simp [h2])])
                  clear h2
                  have hC := put_calls N B (putAll (keepF 3 (FS ++ PS.take p))) u7 0 v2 x2 bs2 a2 n2 cap2 lo2 hi2 wB HRW2.out (Nat.le_trans HN1.out hsz2) (Nat.lt_of_lt_of_le HBW.out hsz2) HLO2.out HHI2.out HFG2.out HLEN.out
                  go_wp2_with fail
                  refine hC.mono ?_
                  rintro e w9 ⟨vl', rfl, hR9, hb9⟩
                  have HR9 := Lib.hid (show RowQ N B w9 (putAll (keepF 3 (FS ++ PS.take (p + 1)))) vl' by rw [HKP.out, putAll_snoc]; exact hR9)
                  have HB9 := Lib.hid (HBR2.out.trans (hb9.mono HBR2.out.size))
                  clear hC hR9 hb9 f0 f1 f2 f3
                  go_wp2_with fail
                  go_roundw
                  case rel => exact ⟨p + 1, by go_num, by omega, Lib.hid ⟨HR9.out, HNO3.out, HB9.out⟩⟩
                  case measure => simp [RowKit.intOf]; omega
            · have h0' : (op2 == 0) = false := beq_eq_false_iff_ne.2 h0
              have h0'' : (op2 != 0) = true := by simpa using h0
              have HNO3 := Lib.hid (show ∀ z ∈ FS ++ PS.take (p + 1), isC (outV 3) z = false from fun z hz => by
                rw [HNX2.out] at hz
                rcases List.mem_append.1 hz with hz | hz
                · exact HNO2.out z hz
                · rw [List.mem_singleton.1 hz, isC_def]
                  simp [h0])
              have HKP := Lib.hid (show keepF 3 (FS ++ PS.take (p + 1)) = keepF 3 (FS ++ PS.take p) ++ [.mk op2 v2 x2 bs2] by
                rw [HNX2.out, keepF_snoc, if_neg (by rw [isC_def]; simp [h0])])
              clear h0
              have hC := put_calls N B (putAll (keepF 3 (FS ++ PS.take p))) u7 op2 v2 x2 bs2 a2 n2 cap2 lo2 hi2 wB HRW2.out (Nat.le_trans HN1.out hsz2) (Nat.lt_of_lt_of_le HBW.out hsz2) HLO2.out HHI2.out HFG2.out HLEN.out
              go_wp2_with fail
              refine hC.mono ?_
              rintro e w9 ⟨vl', rfl, hR9, hb9⟩
              have HR9 := Lib.hid (show RowQ N B w9 (putAll (keepF 3 (FS ++ PS.take (p + 1)))) vl' by rw [HKP.out, putAll_snoc]; exact hR9)
              have HB9 := Lib.hid (HBR2.out.trans (hb9.mono HBR2.out.size))
              clear hC hR9 hb9 f0 f1 f2 f3
              go_wp2_with fail
              go_roundw
              case rel => exact ⟨p + 1, by go_num, by omega, Lib.hid ⟨HR9.out, HNO3.out, HB9.out⟩⟩
              case measure => simp [RowKit.intOf]; omega
          · have hpe : p = 1 := by omega
            have hpn' : ¬ ((p : Int) < 1) := by omega
            rw [hpe] at hrw hno
            have hps : PS.take 1 = PS := List.take_of_length_le (by rw [HP.out.1]; exact Nat.le_refl _)
            rw [hps] at hrw hno
            have HRW3 := Lib.hid (show RowQ N B wr (putAll (keepF 3 (flR 3 (fs.take (q + 1))))) u7 by rw [HNX.out]; exact hrw)
            have HNO3 := Lib.hid (show ∀ z ∈ flR 3 (fs.take (q + 1)), isC (outV 3) z = false by rw [HNX.out]; exact hno)
            have HW := Lib.hid hW
            clear hps hpe hrw hno hbr HM hW
            go_wp2_with fail
            go_roundw
            case rel => exact ⟨q + 1, by go_num, by omega, Lib.hid ⟨HRW3.out, HNO3.out, HW.out⟩⟩
            case measure => simp [RowKit.intOf]; omega
    · obtain rfl : q = L := by omega
      rw [List.take_of_length_le (by rw [HLL.out]; exact Nat.le_refl _)] at hrw hno
      have hj := joinF_end hno
      obtain ⟨M, hM⟩ : ∃ M, putAll (keepF 3 (flR 3 fs)) = M := ⟨_, rfl⟩
      rw [hM] at hrw hj
      have HBF := Lib.hid (HB0.out.trans (hbr.mono HB0.out.size))
      have HJ := Lib.hid hj
      have HRW := Lib.hid hrw
      clear hj hM hno hbr HM hz
      match M, HRW, HJ with
      | [], HRW, HJ =>
        obtain ⟨a3, c3, hv3, _, _, _, _⟩ := HRW.out.elem
        simp only [List.length_nil] at hv3
        subst hv3
        have hC := constR_calls 0 wr
        clear HRW hrw
        go_wp2_with fail
        refine hC.mono ?_
        rintro e w8 ⟨rfl, g8⟩
        have HZ8 := Lib.hid ((g8.below.block B (Array.getElem?_eq_some_iff.1 HZ.out).1).trans HZ.out)
        have HBE := Lib.hid (HBF.out.trans (g8.below.mono HBF.out.size))
        clear hC g8
        obtain ⟨⟨r0, r1, r2, r3⟩, z0, z1, z2, z3⟩ := cells4_of HZ8.out
        go_wp2_with fail
        obtain ⟨h8, g8⟩ := out4 HZ8.out (.int .i64 0) (.int .i64 0) (.int .i64 0) (.slice none 0 0)
        obtain ⟨W8, hW8⟩ : ∃ W8, Hid (W8 = (((w8.setCell ⟨B, 0, none⟩ (.int .i64 0)).setCell ⟨B, 1, none⟩ (.int .i64 0)).setCell ⟨B, 2, none⟩ (.int .i64 0)).setCell ⟨B, 3, none⟩ (.slice none 0 0)) := ⟨_, Lib.hid rfl⟩
        rw [← hW8.out] at h8 g8 ⊢
        obtain ⟨⟨j0, j1, j2, j3⟩, _⟩ := cells4_of h8
        refine bodyPost_ret (v := .agg #[.int .i64 0, .int .i64 0, .int .i64 0, .slice none 0 0]) ?_ rfl ?_
        · simp [results, Try.f37, go_sem, j0, j1, j2, j3]
        · refine ⟨0, 0, 0, [], none, 0, 0, W8.heap.size, W8.heap.size, rfl, ?_, Nat.le_trans HN.out (Nat.le_trans HBE.out.size g8.size), fitR_nil _ _ _ (Nat.le_refl _), HBE.out.grown g8 HBE.out.size (fun j e => by have := Option.some.inj e; have := hB.out; omega), trivial⟩
          exact HJ.out
      | [f], HRW, HJ =>
        obtain ⟨a3, c3, hv3, _, _, _, hel⟩ := HRW.out.elem
        obtain ⟨b3, ⟨op3, v3, x3, a4, n4, c4⟩, bs3, lo3, hi3, ha3, hb3, hfe3, k0, k1, k2, k3, hlo3, hF3, hhi3⟩ := hel 0 f rfl
        dsimp only at hfe3 k0 k1 k2 k3 hF3
        simp only [Nat.zero_mul, Nat.zero_add] at k0 k1 k2 k3
        simp only [List.length_singleton] at hv3
        subst ha3
        subst hv3
        have HF3 := Lib.hid hF3
        have HHI := Lib.hid hhi3
        have HFE := Lib.hid hfe3
        have HLO3 := Lib.hid hlo3
        have HBE := HBF
        clear hel hb3 hfe3 hlo3 hF3 hhi3 HRW hrw
        obtain ⟨⟨r0, r1, r2, r3⟩, z0, z1, z2, z3⟩ := cells4_of HZ.out
        go_wp2_with fail
        obtain ⟨h8, g8⟩ := out4 HZ.out (.int .i64 op3) (.int .i64 v3) (.int .i64 x3) (.slice a4 n4 c4)
        obtain ⟨W8, hW8⟩ : ∃ W8, Hid (W8 = (((wr.setCell ⟨B, 0, none⟩ (.int .i64 op3)).setCell ⟨B, 1, none⟩ (.int .i64 v3)).setCell ⟨B, 2, none⟩ (.int .i64 x3)).setCell ⟨B, 3, none⟩ (.slice a4 n4 c4)) := ⟨_, Lib.hid rfl⟩
        rw [← hW8.out] at h8 g8 ⊢
        obtain ⟨⟨j0, j1, j2, j3⟩, _⟩ := cells4_of h8
        refine bodyPost_ret (v := .agg #[.int .i64 op3, .int .i64 v3, .int .i64 x3, .slice a4 n4 c4]) ?_ rfl ?_
        · simp [results, Try.f37, go_sem, j0, j1, j2, j3]
        · have hkp : Keeps lo3 hi3 wr W8 := Keeps.of_grown g8 HF3.out.top (fun j e => by have := Option.some.inj e; have := HHI.out; omega)
          refine ⟨op3, v3, x3, bs3, a4, n4, c4, lo3, hi3, rfl, ?_, HLO3.out, HF3.out.keeps hkp, HBE.out.grown g8 HBE.out.size (fun j e => by have := Option.some.inj e; have := hB.out; omega), trivial⟩
          rw [HJ.out]
          exact HFE.out
      | f1 :: f2 :: fr, HRW, HJ =>
        obtain ⟨a3, c3, hv3, hc3, hc4, hab, _⟩ := HRW.out.elem
        obtain ⟨L2, hL2⟩ : ∃ L2, (f1 :: f2 :: fr).length = L2 := ⟨_, rfl⟩
        rw [hL2] at hv3 hc3
        have hLb2 : L2 ≤ 9223372036854775807 := by unfold maxLen at hc4; omega
        have hL0 : ((L2 : Int) == 0) = false := by rw [← hL2]; exact beq_eq_false_iff_ne.2 (by simp; omega)
        have hL1 : ((L2 : Int) == 1) = false := by rw [← hL2]; exact beq_eq_false_iff_ne.2 (by simp; omega)
        have HL2 := Lib.hid hL2
        have HBE := HBF
        subst hv3
        clear hab hc3 hc4 hL2 hrw
        obtain ⟨⟨r0, r1, r2, r3⟩, z0, z1, z2, z3⟩ := cells4_of HZ.out
        go_wp2_with fail
        obtain ⟨h8, g8⟩ := out4 HZ.out (.int .i64 3) (.int .i64 0) (.int .i64 0) (.slice a3 L2 c3)
        obtain ⟨W8, hW8⟩ : ∃ W8, Hid (W8 = (((wr.setCell ⟨B, 0, none⟩ (.int .i64 3)).setCell ⟨B, 1, none⟩ (.int .i64 0)).setCell ⟨B, 2, none⟩ (.int .i64 0)).setCell ⟨B, 3, none⟩ (.slice a3 L2 c3)) := ⟨_, Lib.hid rfl⟩
        rw [← hW8.out] at h8 g8 ⊢
        obtain ⟨⟨j0, j1, j2, j3⟩, _⟩ := cells4_of h8
        refine bodyPost_ret (v := .agg #[.int .i64 3, .int .i64 0, .int .i64 0, .slice a3 L2 c3]) ?_ rfl ?_
        · simp [results, Try.f37, go_sem, j0, j1, j2, j3]
        · obtain ⟨cs, hrow, htw, hown⟩ := HRW.out.row
          have hrow8 := hrow.grown g8 (fun j hj e => by have := hown j hj; omega)
          have htw8 := htw.grown g8 (fun j e => by have := Option.some.inj e; omega)
          obtain ⟨a9, c9, hv9, hF9⟩ := fitR_of_row hrow8 (htw8.toL (fun j hj => Nat.le_of_lt (hown j hj)))
          rw [HL2.out] at hv9 hF9
          cases hv9
          refine ⟨3, 0, 0, f1 :: f2 :: fr, a3, L2, c3, N, W8.heap.size, rfl, ?_, Nat.le_refl _, hF9, HBE.out.grown g8 HBE.out.size (fun j e => by have := Option.some.inj e; have := hB.out; omega), trivial⟩
          rw [HJ.out]
          rfl
set_option maxRecDepth 100000 in
set_option maxHeartbeats 16000000 in
theorem joined_and (N : Nat) (fs : List Fm) (vl : Value) (w : World) (hr : RowR N w fs vl) (hN : N ≤ w.heap.size) (hnf : ∀ f ∈ fs, nfF f) (hsz : szL fs < 549755813888) :
    Calls Try.prog 37 #[.int .i64 2, vl] w (JoinedR N w (fun _ => True) (joinF 2 fs)) := by
  obtain ⟨al, cl, hvl, hPA⟩ := partsAt_row hr
  obtain ⟨L, hL⟩ : ∃ L, fs.length = L := ⟨_, rfl⟩
  rw [hL] at hvl hPA
  subst hvl
  have hLb : L ≤ 9223372036854775807 := by have := hPA.2.1; have := hPA.2.2.1; unfold maxLen at this; omega
  have hb0 : Below w.heap.size w (w.alloc (.cells #[.int .i64 0, .int .i64 0, .int .i64 0, .slice none 0 0] 26)) := (Below.refl _ _).alloc (Nat.le_refl _) _
  have hz0 := heap_alloc_new w (.cells #[.int .i64 0, .int .i64 0, .int .i64 0, .slice none 0 0] 26)
  obtain ⟨W1, hW1⟩ : ∃ W1, w.alloc (.cells #[.int .i64 0, .int .i64 0, .int .i64 0, .slice none 0 0] 26) = W1 := ⟨_, rfl⟩
  rw [hW1] at hb0 hz0
  have HPA := Lib.hid (hPA.below hb0)
  have HB0 := Lib.hid hb0
  have HZ0 := Lib.hid hz0
  have HLL := Lib.hid hL
  have HN := Lib.hid hN
  have HNF := Lib.hid hnf
  have HSZ := Lib.hid hsz
  have hO : Hid (outV 2 = 0) := Lib.hid rfl
  have hK : Hid (keptV 2 = 2) := Lib.hid rfl
  have HN1 := Lib.hid (Nat.le_trans hN hb0.size)
  obtain ⟨B, hB⟩ : ∃ B, Hid (w.heap.size = B) := ⟨_, Lib.hid rfl⟩
  rw [hB.out] at HZ0 HPA
  have HBW := Lib.hid (Array.getElem?_eq_some_iff.1 HZ0.out).1
  have HBN : Hid (N ≤ B) := Lib.hid (by rw [← hB.out]; exact hN)
  clear hPA hr hN hnf hsz hb0 hz0 hL
  go_enter Try.func37, Try.ntmps37
  go_upto_region 1 with fail
  try rw [hW1]
  try rw [hB.out]
  clear hW1
  go_wp2_with fail
  go_loopw [7, 17] (fun vv i wr => ∃ (q : Nat), i = .int .i64 q ∧ q ≤ L ∧ Hid (RowQ N B wr (putAll (keepF 2 (flR 2 (fs.take q)))) vv ∧ (∀ p ∈ flR 2 (fs.take q), isC (outV 2) p = false) ∧ Below W1.heap.size W1 wr)) (fun _ i _ => L - (RowKit.intOf i).toNat)
  case atStart => exact ⟨0, rfl, Nat.zero_le _, Lib.hid ⟨RowQ.nil _ _ _, fun p hp => by simp [flR] at hp, Below.refl _ _⟩⟩
  case round =>
    obtain ⟨q, rfl, hq, HM⟩ := hrel
    obtain ⟨hrw, hno, hbr⟩ := HM.out
    have hz := (hbr.block B (Array.getElem?_eq_some_iff.1 HZ0.out).1).trans HZ0.out
    have HZ := Lib.hid hz
    by_cases hqn : q < L
    · have hqn' : (q : Int) < L := by omega
      have hfq : fs[q]? = some (fs[q]'(by have := HLL.out; omega)) := List.getElem?_eq_getElem _
      obtain ⟨b, o, c, bs, lo, hi, hal, hb, hfe, d0, d1, d2, d3, hlo, hhi, hFg⟩ := (HPA.out.below hbr).2.2.2 q _ hfq
      obtain ⟨op1, v1, x1, a1, n1, cap1⟩ := c
      dsimp only at hfe d0 d1 d2 d3 hFg
      rw [hfe] at hfq
      subst hal
      have hnfa : nfF (.mk op1 v1 x1 bs) := HNF.out _ (List.mem_of_getElem? hfq)
      have hnx : flR 2 (fs.take (q + 1)) = flR 2 (fs.take q) ++ partsF 2 (.mk op1 v1 x1 bs) := by rw [take_next hfq, flR_snoc]
      have hszq : szL (flR 2 (fs.take (q + 1))) < 549755813888 := by
        have h1 := szL_flat 2 (fs.take (q + 1))
        have h2 := szL_take_le fs (q + 1)
        have := HSZ.out
        omega
      have hsub : ∀ p ∈ flR 2 (fs.take (q + 1)), p ∈ flR 2 fs := fun p hp => by
        obtain ⟨a, ha, k⟩ := flR_mem.1 hp
        exact flR_mem.2 ⟨a, List.mem_of_mem_take ha, k⟩
      have hgA : Grows wr ((wr.alloc (.cells #[.int .i64 op1, .int .i64 v1, .int .i64 x1, .slice a1 n1 cap1] 26)).alloc (.cells #[.int .i64 op1, .int .i64 v1, .int .i64 x1, .slice a1 n1 cap1] 26)) := ((Grows.refl _).alloc _).alloc _
      have hxA : ((wr.alloc (.cells #[.int .i64 op1, .int .i64 v1, .int .i64 x1, .slice a1 n1 cap1] 26)).alloc (.cells #[.int .i64 op1, .int .i64 v1, .int .i64 x1, .slice a1 n1 cap1] 26)).heap[wr.heap.size]? = some (.cells #[.int .i64 op1, .int .i64 v1, .int .i64 x1, .slice a1 n1 cap1] 26) := (heap_alloc_old _ _ (by simp)).trans (heap_alloc_new _ _)
      have hxA2 : ((wr.alloc (.cells #[.int .i64 op1, .int .i64 v1, .int .i64 x1, .slice a1 n1 cap1] 26)).alloc (.cells #[.int .i64 op1, .int .i64 v1, .int .i64 x1, .slice a1 n1 cap1] 26)).heap[wr.heap.size + 1]? = some (.cells #[.int .i64 op1, .int .i64 v1, .int .i64 x1, .slice a1 n1 cap1] 26) := by
        have := heap_alloc_new (wr.alloc (.cells #[.int .i64 op1, .int .i64 v1, .int .i64 x1, .slice a1 n1 cap1] 26)) (.cells #[.int .i64 op1, .int .i64 v1, .int .i64 x1, .slice a1 n1 cap1] 26)
        rw [World.size_alloc] at this
        exact this
      have HNX := Lib.hid hnx
      have HSQ := Lib.hid hszq
      have HSUB := Lib.hid hsub
      have HNFA := Lib.hid hnfa
      have HLO := Lib.hid hlo
      have HHI := Lib.hid hhi
      have HFG := Lib.hid (hFg.keeps (Keeps.of_below hgA.below hFg.top))
      have HRW := Lib.hid (hrw.below hgA.below)
      have HNO := Lib.hid hno
      have HBR := Lib.hid (hbr.trans (hgA.below.mono hbr.size))
      clear hfq hfe hb hlo hhi hFg hnfa hnx hszq hsub hrw hno hbr HM hz
      go_upto_region 10 with fail
      obtain ⟨wA, hwA⟩ : ∃ wA, (wr.alloc (.cells #[.int .i64 op1, .int .i64 v1, .int .i64 x1, .slice a1 n1 cap1] 26)).alloc (.cells #[.int .i64 op1, .int .i64 v1, .int .i64 x1, .slice a1 n1 cap1] 26) = wA := ⟨_, rfl⟩
      rw [hwA] at hgA hxA hxA2 HFG HRW HBR ⊢
      obtain ⟨A, hA⟩ : ∃ A, Hid (wr.heap.size = A) := ⟨_, Lib.hid rfl⟩
      rw [hA.out] at hxA hxA2
      try rw [hA.out]
      try rw [World.size_alloc, hA.out]
      obtain ⟨⟨e0, e1, e2, e3⟩, _⟩ := cells4_of hxA
      have HXA2 := Lib.hid hxA2
      clear hwA hxA hxA2 hgA d0 d1 d2 d3
      have hparts : ∃ pa pn pc, (op1 = 2 → a1 = pa ∧ n1 = pn ∧ cap1 = pc) ∧ (op1 ≠ 2 → pa = some ⟨A + 1, 0, none⟩ ∧ pn = 1 ∧ pc = 1) ∧ PartsAt N B wA (partsF 2 (.mk op1 v1 x1 bs)) pa pn pc := by
        by_cases ho : op1 = 2
        · refine ⟨a1, n1, cap1, fun _ => ⟨rfl, rfl, rfl⟩, fun h => absurd ho h, ?_⟩
          subst ho
          have hsh := (nf_ar HNFA.out).1
          have hl2 : 2 ≤ bs.length := by rcases hsh with k | k | k | k <;> omega
          have hfl := HFG.out.here.len
          have : partsF 2 (.mk 2 v1 x1 bs) = bs := partsF_eq _ _ _ _
          rw [this]
          exact partsAt_elems HFG.out HLO.out HHI.out (by omega)
        · refine ⟨some ⟨A + 1, 0, none⟩, 1, 1, fun h => absurd h ho, fun _ => ⟨rfl, rfl, rfl⟩, ?_⟩
          have : partsF 2 (.mk op1 v1 x1 bs) = [.mk op1 v1 x1 bs] := partsF_ne ho _ _ _
          rw [this]
          exact partsAt_one HFG.out HLO.out HHI.out HXA2.out
      obtain ⟨pa, pn, pc, hp1, hp2, hP⟩ := hparts
      have HP := Lib.hid hP
      have hpb : pn ≤ 9223372036854775807 := by have := hP.2.1; have := hP.2.2.1; unfold maxLen at this; omega
      clear hP
      by_cases ho : op1 = 2
      · obtain ⟨rfl, rfl, rfl⟩ := hp1 ho
        subst ho
        clear hp1 hp2
        go_wp2_with fail
        have HFE0 := HFG
        clear HFG
        obtain ⟨PS, hPS⟩ : ∃ PS, partsF 2 (.mk 2 v1 x1 bs) = PS := ⟨_, rfl⟩
        obtain ⟨FS, hFS⟩ : ∃ FS, flR 2 (fs.take q) = FS := ⟨_, rfl⟩
        rw [hPS] at HP HNX
        rw [hFS] at HNX HRW HNO
        have HPS := Lib.hid hPS
        clear hPS hFS
        go_loopw [7, 31] (fun vv i wr => ∃ (p : Nat), i = .int .i64 p ∧ p ≤ n1 ∧ Hid (RowQ N B wr (putAll (keepF 2 (FS ++ PS.take p))) vv ∧ (∀ z ∈ FS ++ PS.take p, isC (outV 2) z = false) ∧ Below wA.heap.size wA wr)) (fun _ i _ => n1 - (RowKit.intOf i).toNat)
        case atStart => exact ⟨0, rfl, Nat.zero_le _, Lib.hid ⟨by rw [List.take_zero, List.append_nil]; exact HRW.out, by rw [List.take_zero, List.append_nil]; exact HNO.out, Below.refl _ _⟩⟩
        case round =>
          obtain ⟨p, rfl, hp, HM⟩ := hrel
          obtain ⟨hrw, hno, hbr⟩ := HM.out
          have hW := HBR.out.trans (hbr.mono HBR.out.size)
          by_cases hpn : p < n1
          · have hpn' : (p : Int) < n1 := by omega
            have hfp : PS[p]? = some (PS[p]'(by have := HP.out.1; omega)) := List.getElem?_eq_getElem _
            obtain ⟨b2, o2, c2, bs2, lo2, hi2, hal2, hb2, hfe2, d0, d1, d2, d3, hlo2, hhi2, hFg2⟩ := (HP.out.below hbr).2.2.2 p _ hfp
            obtain ⟨op2, v2, x2, a2, n2, cap2⟩ := c2
            dsimp only at hfe2 d0 d1 d2 d3 hFg2
            rw [hfe2] at hfp
            subst hal2
            have hnx2 : FS ++ PS.take (p + 1) = (FS ++ PS.take p) ++ [.mk op2 v2 x2 bs2] := by rw [take_next hfp, List.append_assoc]
            have hlen : (putAll (keepF 2 (FS ++ PS.take p))).length < 549755813888 := by
              have h1 := putAll_len (keepF 2 (FS ++ PS.take p))
              have h2 : szL (keepF 2 (FS ++ PS.take p)) ≤ szL (FS ++ PS.take p) := szL_filter _ _
              have h3 := HSQ.out
              have h4 := szL_take_le PS p
              rw [HNX.out, szL_app] at h3
              rw [szL_app] at h2
              omega
            have hgB : Grows wr (wr.alloc (.cells #[.int .i64 op2, .int .i64 v2, .int .i64 x2, .slice a2 n2 cap2] 26)) := (Grows.refl _).alloc _
            have hxB := heap_alloc_new wr (.cells #[.int .i64 op2, .int .i64 v2, .int .i64 x2, .slice a2 n2 cap2] 26)
            have hz2 := ((hW.trans (hgB.below.mono hW.size)).block B (Array.getElem?_eq_some_iff.1 HZ0.out).1).trans HZ0.out
            have HFP := Lib.hid hfp
            have HNX2 := Lib.hid hnx2
            have HLEN := Lib.hid hlen
            have HLO2 := Lib.hid hlo2
            have HHI2 := Lib.hid hhi2
            have HFG2 := Lib.hid (hFg2.keeps (Keeps.of_below hgB.below hFg2.top))
            have HRW2 := Lib.hid (hrw.below hgB.below)
            have HNO2 := Lib.hid hno
            have HBR2 := Lib.hid (hbr.trans (hgB.below.mono hbr.size))
            have HBRW := Lib.hid (hW.trans (hgB.below.mono hW.size))
            have HZ2 := Lib.hid hz2
            clear hfp hfe2 hb2 hlo2 hhi2 hFg2 hnx2 hlen hrw hno hbr hW hz2 HM
            go_upto_region 15 with fail
            obtain ⟨wB, hwB⟩ : ∃ wB, wr.alloc (.cells #[.int .i64 op2, .int .i64 v2, .int .i64 x2, .slice a2 n2 cap2] 26) = wB := ⟨_, rfl⟩
            rw [hwB] at hgB hxB HFG2 HRW2 HBR2 HBRW HZ2 ⊢
            obtain ⟨B2, hB2⟩ : ∃ B2, Hid (wr.heap.size = B2) := ⟨_, Lib.hid rfl⟩
            rw [hB2.out] at hxB
            try rw [hB2.out]
            obtain ⟨⟨f0, f1, f2, f3⟩, _⟩ := cells4_of hxB
            clear hwB hxB hgB d0 d1 d2 d3
            have hsz2 := HBRW.out.size
            by_cases h0 : op2 = 0
            · subst h0
              by_cases h1 : v2 = 0
              · subst h1
                have hC := constR_calls 0 wB
                go_wp2_with fail
                refine hC.mono ?_
                rintro e w8 ⟨rfl, g8⟩
                have HZ8 := Lib.hid ((g8.below.block B (Array.getElem?_eq_some_iff.1 HZ2.out).1).trans HZ2.out)
                have HBE := Lib.hid (HB0.out.trans (HBRW.out.mono HB0.out.size) |>.trans (g8.below.mono (Nat.le_trans HB0.out.size HBRW.out.size)))
                clear hC g8 f0 f1 f2 f3 e0 e1 e2 e3
                obtain ⟨⟨r0, r1, r2, r3⟩, z0, z1, z2, z3⟩ := cells4_of HZ8.out
                go_wp2_with fail
                obtain ⟨h8, g8⟩ := out4 HZ8.out (.int .i64 0) (.int .i64 0) (.int .i64 0) (.slice none 0 0)
                obtain ⟨W8, hW8⟩ : ∃ W8, Hid (W8 = (((w8.setCell ⟨B, 0, none⟩ (.int .i64 0)).setCell ⟨B, 1, none⟩ (.int .i64 0)).setCell ⟨B, 2, none⟩ (.int .i64 0)).setCell ⟨B, 3, none⟩ (.slice none 0 0)) := ⟨_, Lib.hid rfl⟩
                rw [← hW8.out] at h8 g8 ⊢
                obtain ⟨⟨j0, j1, j2, j3⟩, _⟩ := cells4_of h8
                refine bodyPost_ret (v := .agg #[.int .i64 0, .int .i64 0, .int .i64 0, .slice none 0 0]) ?_ rfl ?_
                · simp [results, Try.f37, go_sem, j0, j1, j2, j3]
                · refine ⟨0, 0, 0, [], none, 0, 0, W8.heap.size, W8.heap.size, rfl, ?_, Nat.le_trans HN.out (Nat.le_trans HBE.out.size g8.size), fitR_nil _ _ _ (Nat.le_refl _), HBE.out.grown g8 HBE.out.size (fun j e => by have := Option.some.inj e; have := hB.out; omega), trivial⟩
                  exact joinF_out (HSUB.out _ (by rw [HNX.out]; exact List.mem_append_right _ (List.mem_of_getElem? HFP.out))) (by rw [hO.out]; simp [isC_def])
              · have h1' : (v2 == 0) = false := beq_eq_false_iff_ne.2 h1
                have hno3 : isC (outV 2) (.mk 0 v2 x2 bs2) = false := by rw [hO.out, isC_def]; simp [h1]
                have HNO3 := Lib.hid (show ∀ z ∈ FS ++ PS.take (p + 1), isC (outV 2) z = false from fun z hz => by
                  rw [HNX2.out] at hz
                  rcases List.mem_append.1 hz with hz | hz
                  · exact HNO2.out z hz
                  · rw [List.mem_singleton.1 hz]
                    exact hno3)
                clear h1 hno3
                by_cases h2 : v2 = 2
                · subst h2
                  have HRW3 := Lib.hid (show RowQ N B wB (putAll (keepF 2 (FS ++ PS.take (p + 1)))) u7 by
                    rw [HNX2.out, keepF_snoc, if_pos (by rw [hK.out, isC_def]; simp), List.append_nil]
                    exact HRW2.out)
                  go_wp2_with fail
                  go_roundw
                  case rel => exact ⟨p + 1, by go_num, by omega, Lib.hid ⟨HRW3.out, HNO3.out, HBR2.out⟩⟩
                  case measure => simp [RowKit.intOf]; omega
                · have h2' : (v2 != 2) = true := by simpa using h2
                  have HKP := Lib.hid (show keepF 2 (FS ++ PS.take (p + 1)) = keepF 2 (FS ++ PS.take p) ++ [.mk 0 v2 x2 bs2] by
                    rw [HNX2.out, keepF_snoc, if_neg (by rw [hK.out, isC_def]; simp [h2])])
                  clear h2
                  have hC := put_calls N B (putAll (keepF 2 (FS ++ PS.take p))) u7 0 v2 x2 bs2 a2 n2 cap2 lo2 hi2 wB HRW2.out (Nat.le_trans HN1.out hsz2) (Nat.lt_of_lt_of_le HBW.out hsz2) HLO2.out HHI2.out HFG2.out HLEN.out
                  go_wp2_with fail
                  refine hC.mono ?_
                  rintro e w9 ⟨vl', rfl, hR9, hb9⟩
                  have HR9 := Lib.hid (show RowQ N B w9 (putAll (keepF 2 (FS ++ PS.take (p + 1)))) vl' by rw [HKP.out, putAll_snoc]; exact hR9)
                  have HB9 := Lib.hid (HBR2.out.trans (hb9.mono HBR2.out.size))
                  clear hC hR9 hb9 f0 f1 f2 f3
                  go_wp2_with fail
                  go_roundw
                  case rel => exact ⟨p + 1, by go_num, by omega, Lib.hid ⟨HR9.out, HNO3.out, HB9.out⟩⟩
                  case measure => simp [RowKit.intOf]; omega
            · have h0' : (op2 == 0) = false := beq_eq_false_iff_ne.2 h0
              have h0'' : (op2 != 0) = true := by simpa using h0
              have HNO3 := Lib.hid (show ∀ z ∈ FS ++ PS.take (p + 1), isC (outV 2) z = false from fun z hz => by
                rw [HNX2.out] at hz
                rcases List.mem_append.1 hz with hz | hz
                · exact HNO2.out z hz
                · rw [List.mem_singleton.1 hz, isC_def]
                  simp [h0])
              have HKP := Lib.hid (show keepF 2 (FS ++ PS.take (p + 1)) = keepF 2 (FS ++ PS.take p) ++ [.mk op2 v2 x2 bs2] by
                rw [HNX2.out, keepF_snoc, if_neg (by rw [isC_def]; simp [h0])])
              clear h0
              have hC := put_calls N B (putAll (keepF 2 (FS ++ PS.take p))) u7 op2 v2 x2 bs2 a2 n2 cap2 lo2 hi2 wB HRW2.out (Nat.le_trans HN1.out hsz2) (Nat.lt_of_lt_of_le HBW.out hsz2) HLO2.out HHI2.out HFG2.out HLEN.out
              go_wp2_with fail
              refine hC.mono ?_
              rintro e w9 ⟨vl', rfl, hR9, hb9⟩
              have HR9 := Lib.hid (show RowQ N B w9 (putAll (keepF 2 (FS ++ PS.take (p + 1)))) vl' by rw [HKP.out, putAll_snoc]; exact hR9)
              have HB9 := Lib.hid (HBR2.out.trans (hb9.mono HBR2.out.size))
              clear hC hR9 hb9 f0 f1 f2 f3
              go_wp2_with fail
              go_roundw
              case rel => exact ⟨p + 1, by go_num, by omega, Lib.hid ⟨HR9.out, HNO3.out, HB9.out⟩⟩
              case measure => simp [RowKit.intOf]; omega
          · have hpe : p = n1 := by omega
            have hpn' : ¬ ((p : Int) < n1) := by omega
            rw [hpe] at hrw hno
            have hps : PS.take n1 = PS := List.take_of_length_le (by rw [HP.out.1]; exact Nat.le_refl _)
            rw [hps] at hrw hno
            have HRW3 := Lib.hid (show RowQ N B wr (putAll (keepF 2 (flR 2 (fs.take (q + 1))))) u7 by rw [HNX.out]; exact hrw)
            have HNO3 := Lib.hid (show ∀ z ∈ flR 2 (fs.take (q + 1)), isC (outV 2) z = false by rw [HNX.out]; exact hno)
            have HW := Lib.hid hW
            clear hps hpe hrw hno hbr HM hW
            go_wp2_with fail
            go_roundw
            case rel => exact ⟨q + 1, by go_num, by omega, Lib.hid ⟨HRW3.out, HNO3.out, HW.out⟩⟩
            case measure => simp [RowKit.intOf]; omega
      · have ho' : (op1 == 2) = false := beq_eq_false_iff_ne.2 ho
        obtain ⟨rfl, rfl, rfl⟩ := hp2 ho
        clear hp1 hp2
        go_wp2_with fail
        have HFE0 := HFG
        clear HFG
        obtain ⟨PS, hPS⟩ : ∃ PS, partsF 2 (.mk op1 v1 x1 bs) = PS := ⟨_, rfl⟩
        obtain ⟨FS, hFS⟩ : ∃ FS, flR 2 (fs.take q) = FS := ⟨_, rfl⟩
        rw [hPS] at HP HNX
        rw [hFS] at HNX HRW HNO
        have HPS := Lib.hid hPS
        clear hPS hFS
        go_loopw [7, 31] (fun vv i wr => ∃ (p : Nat), i = .int .i64 p ∧ p ≤ 1 ∧ Hid (RowQ N B wr (putAll (keepF 2 (FS ++ PS.take p))) vv ∧ (∀ z ∈ FS ++ PS.take p, isC (outV 2) z = false) ∧ Below wA.heap.size wA wr)) (fun _ i _ => 1 - (RowKit.intOf i).toNat)
        case atStart => exact ⟨0, rfl, Nat.zero_le _, Lib.hid ⟨by rw [List.take_zero, List.append_nil]; exact HRW.out, by rw [List.take_zero, List.append_nil]; exact HNO.out, Below.refl _ _⟩⟩
        case round =>
          obtain ⟨p, rfl, hp, HM⟩ := hrel
          obtain ⟨hrw, hno, hbr⟩ := HM.out
          have hW := HBR.out.trans (hbr.mono HBR.out.size)
          by_cases hpn : p < 1
          · have hpn' : (p : Int) < 1 := by omega
            have hfp : PS[p]? = some (PS[p]'(by have := HP.out.1; omega)) := List.getElem?_eq_getElem _
            obtain ⟨b2, o2, c2, bs2, lo2, hi2, hal2, hb2, hfe2, d0, d1, d2, d3, hlo2, hhi2, hFg2⟩ := (HP.out.below hbr).2.2.2 p _ hfp
            obtain ⟨op2, v2, x2, a2, n2, cap2⟩ := c2
            dsimp only at hfe2 d0 d1 d2 d3 hFg2
            rw [hfe2] at hfp
            cases hal2
            simp only [Nat.zero_add] at d0 d1 d2 d3
            have hnx2 : FS ++ PS.take (p + 1) = (FS ++ PS.take p) ++ [.mk op2 v2 x2 bs2] := by rw [take_next hfp, List.append_assoc]
            have hlen : (putAll (keepF 2 (FS ++ PS.take p))).length < 549755813888 := by
              have h1 := putAll_len (keepF 2 (FS ++ PS.take p))
              have h2 : szL (keepF 2 (FS ++ PS.take p)) ≤ szL (FS ++ PS.take p) := szL_filter _ _
              have h3 := HSQ.out
              have h4 := szL_take_le PS p
              rw [HNX.out, szL_app] at h3
              rw [szL_app] at h2
              omega
            have hgB : Grows wr (wr.alloc (.cells #[.int .i64 op2, .int .i64 v2, .int .i64 x2, .slice a2 n2 cap2] 26)) := (Grows.refl _).alloc _
            have hxB := heap_alloc_new wr (.cells #[.int .i64 op2, .int .i64 v2, .int .i64 x2, .slice a2 n2 cap2] 26)
            have hz2 := ((hW.trans (hgB.below.mono hW.size)).block B (Array.getElem?_eq_some_iff.1 HZ0.out).1).trans HZ0.out
            have HFP := Lib.hid hfp
            have HNX2 := Lib.hid hnx2
            have HLEN := Lib.hid hlen
            have HLO2 := Lib.hid hlo2
            have HHI2 := Lib.hid hhi2
            have HFG2 := Lib.hid (hFg2.keeps (Keeps.of_below hgB.below hFg2.top))
            have HRW2 := Lib.hid (hrw.below hgB.below)
            have HNO2 := Lib.hid hno
            have HBR2 := Lib.hid (hbr.trans (hgB.below.mono hbr.size))
            have HBRW := Lib.hid (hW.trans (hgB.below.mono hW.size))
            have HZ2 := Lib.hid hz2
            clear hfp hfe2 hb2 hlo2 hhi2 hFg2 hnx2 hlen hrw hno hbr hW hz2 HM
            go_upto_region 15 with fail
            obtain ⟨wB, hwB⟩ : ∃ wB, wr.alloc (.cells #[.int .i64 op2, .int .i64 v2, .int .i64 x2, .slice a2 n2 cap2] 26) = wB := ⟨_, rfl⟩
            rw [hwB] at hgB hxB HFG2 HRW2 HBR2 HBRW HZ2 ⊢
            obtain ⟨B2, hB2⟩ : ∃ B2, Hid (wr.heap.size = B2) := ⟨_, Lib.hid rfl⟩
            rw [hB2.out] at hxB
            try rw [hB2.out]
            obtain ⟨⟨f0, f1, f2, f3⟩, _⟩ := cells4_of hxB
            clear hwB hxB hgB d0 d1 d2 d3
            have hsz2 := HBRW.out.size
            by_cases h0 : op2 = 0
            · subst h0
              by_cases h1 : v2 = 0
              · subst h1
                have hC := constR_calls 0 wB
                go_wp2_with fail
                refine hC.mono ?_
                rintro e w8 ⟨rfl, g8⟩
                have HZ8 := Lib.hid ((g8.below.block B (Array.getElem?_eq_some_iff.1 HZ2.out).1).trans HZ2.out)
                have HBE := Lib.hid (HB0.out.trans (HBRW.out.mono HB0.out.size) |>.trans (g8.below.mono (Nat.le_trans HB0.out.size HBRW.out.size)))
                clear hC g8 f0 f1 f2 f3 e0 e1 e2 e3
                obtain ⟨⟨r0, r1, r2, r3⟩, z0, z1, z2, z3⟩ := cells4_of HZ8.out
                go_wp2_with fail
                obtain ⟨h8, g8⟩ := out4 HZ8.out (.int .i64 0) (.int .i64 0) (.int .i64 0) (.slice none 0 0)
                obtain ⟨W8, hW8⟩ : ∃ W8, Hid (W8 = (((w8.setCell ⟨B, 0, none⟩ (.int .i64 0)).setCell ⟨B, 1, none⟩ (.int .i64 0)).setCell ⟨B, 2, none⟩ (.int .i64 0)).setCell ⟨B, 3, none⟩ (.slice none 0 0)) := ⟨_, Lib.hid rfl⟩
                rw [← hW8.out] at h8 g8 ⊢
                obtain ⟨⟨j0, j1, j2, j3⟩, _⟩ := cells4_of h8
                refine bodyPost_ret (v := .agg #[.int .i64 0, .int .i64 0, .int .i64 0, .slice none 0 0]) ?_ rfl ?_
                · simp [results, Try.f37, go_sem, j0, j1, j2, j3]
                · refine ⟨0, 0, 0, [], none, 0, 0, W8.heap.size, W8.heap.size, rfl, ?_, Nat.le_trans HN.out (Nat.le_trans HBE.out.size g8.size), fitR_nil _ _ _ (Nat.le_refl _), HBE.out.grown g8 HBE.out.size (fun j e => by have := Option.some.inj e; have := hB.out; omega), trivial⟩
                  exact joinF_out (HSUB.out _ (by rw [HNX.out]; exact List.mem_append_right _ (List.mem_of_getElem? HFP.out))) (by rw [hO.out]; simp [isC_def])
              · have h1' : (v2 == 0) = false := beq_eq_false_iff_ne.2 h1
                have hno3 : isC (outV 2) (.mk 0 v2 x2 bs2) = false := by rw [hO.out, isC_def]; simp [h1]
                have HNO3 := Lib.hid (show ∀ z ∈ FS ++ PS.take (p + 1), isC (outV 2) z = false from fun z hz => by
                  rw [HNX2.out] at hz
                  rcases List.mem_append.1 hz with hz | hz
                  · exact HNO2.out z hz
                  · rw [List.mem_singleton.1 hz]
                    exact hno3)
                clear h1 hno3
                by_cases h2 : v2 = 2
                · subst h2
                  have HRW3 := Lib.hid (show RowQ N B wB (putAll (keepF 2 (FS ++ PS.take (p + 1)))) u7 by
                    rw [HNX2.out, keepF_snoc, if_pos (by rw [hK.out, isC_def]; simp), List.append_nil]
                    exact HRW2.out)
                  go_wp2_with fail
                  go_roundw
                  case rel => exact ⟨p + 1, by go_num, by omega, Lib.hid ⟨HRW3.out, HNO3.out, HBR2.out⟩⟩
                  case measure => simp [RowKit.intOf]; omega
                · have h2' : (v2 != 2) = true := by simpa using h2
                  have HKP := Lib.hid (show keepF 2 (FS ++ PS.take (p + 1)) = keepF 2 (FS ++ PS.take p) ++ [.mk 0 v2 x2 bs2] by
                    rw [HNX2.out, keepF_snoc, if_neg (by rw [hK.out, isC_def]; simp [h2])])
                  clear h2
                  have hC := put_calls N B (putAll (keepF 2 (FS ++ PS.take p))) u7 0 v2 x2 bs2 a2 n2 cap2 lo2 hi2 wB HRW2.out (Nat.le_trans HN1.out hsz2) (Nat.lt_of_lt_of_le HBW.out hsz2) HLO2.out HHI2.out HFG2.out HLEN.out
                  go_wp2_with fail
                  refine hC.mono ?_
                  rintro e w9 ⟨vl', rfl, hR9, hb9⟩
                  have HR9 := Lib.hid (show RowQ N B w9 (putAll (keepF 2 (FS ++ PS.take (p + 1)))) vl' by rw [HKP.out, putAll_snoc]; exact hR9)
                  have HB9 := Lib.hid (HBR2.out.trans (hb9.mono HBR2.out.size))
                  clear hC hR9 hb9 f0 f1 f2 f3
                  go_wp2_with fail
                  go_roundw
                  case rel => exact ⟨p + 1, by go_num, by omega, Lib.hid ⟨HR9.out, HNO3.out, HB9.out⟩⟩
                  case measure => simp [RowKit.intOf]; omega
            · have h0' : (op2 == 0) = false := beq_eq_false_iff_ne.2 h0
              have h0'' : (op2 != 0) = true := by simpa using h0
              have HNO3 := Lib.hid (show ∀ z ∈ FS ++ PS.take (p + 1), isC (outV 2) z = false from fun z hz => by
                rw [HNX2.out] at hz
                rcases List.mem_append.1 hz with hz | hz
                · exact HNO2.out z hz
                · rw [List.mem_singleton.1 hz, isC_def]
                  simp [h0])
              have HKP := Lib.hid (show keepF 2 (FS ++ PS.take (p + 1)) = keepF 2 (FS ++ PS.take p) ++ [.mk op2 v2 x2 bs2] by
                rw [HNX2.out, keepF_snoc, if_neg (by rw [isC_def]; simp [h0])])
              clear h0
              have hC := put_calls N B (putAll (keepF 2 (FS ++ PS.take p))) u7 op2 v2 x2 bs2 a2 n2 cap2 lo2 hi2 wB HRW2.out (Nat.le_trans HN1.out hsz2) (Nat.lt_of_lt_of_le HBW.out hsz2) HLO2.out HHI2.out HFG2.out HLEN.out
              go_wp2_with fail
              refine hC.mono ?_
              rintro e w9 ⟨vl', rfl, hR9, hb9⟩
              have HR9 := Lib.hid (show RowQ N B w9 (putAll (keepF 2 (FS ++ PS.take (p + 1)))) vl' by rw [HKP.out, putAll_snoc]; exact hR9)
              have HB9 := Lib.hid (HBR2.out.trans (hb9.mono HBR2.out.size))
              clear hC hR9 hb9 f0 f1 f2 f3
              go_wp2_with fail
              go_roundw
              case rel => exact ⟨p + 1, by go_num, by omega, Lib.hid ⟨HR9.out, HNO3.out, HB9.out⟩⟩
              case measure => simp [RowKit.intOf]; omega
          · have hpe : p = 1 := by omega
            have hpn' : ¬ ((p : Int) < 1) := by omega
            rw [hpe] at hrw hno
            have hps : PS.take 1 = PS := List.take_of_length_le (by rw [HP.out.1]; exact Nat.le_refl _)
            rw [hps] at hrw hno
            have HRW3 := Lib.hid (show RowQ N B wr (putAll (keepF 2 (flR 2 (fs.take (q + 1))))) u7 by rw [HNX.out]; exact hrw)
            have HNO3 := Lib.hid (show ∀ z ∈ flR 2 (fs.take (q + 1)), isC (outV 2) z = false by rw [HNX.out]; exact hno)
            have HW := Lib.hid hW
            clear hps hpe hrw hno hbr HM hW
            go_wp2_with fail
            go_roundw
            case rel => exact ⟨q + 1, by go_num, by omega, Lib.hid ⟨HRW3.out, HNO3.out, HW.out⟩⟩
            case measure => simp [RowKit.intOf]; omega
    · obtain rfl : q = L := by omega
      rw [List.take_of_length_le (by rw [HLL.out]; exact Nat.le_refl _)] at hrw hno
      have hj := joinF_end hno
      obtain ⟨M, hM⟩ : ∃ M, putAll (keepF 2 (flR 2 fs)) = M := ⟨_, rfl⟩
      rw [hM] at hrw hj
      have HBF := Lib.hid (HB0.out.trans (hbr.mono HB0.out.size))
      have HJ := Lib.hid hj
      have HRW := Lib.hid hrw
      clear hj hM hno hbr HM hz
      match M, HRW, HJ with
      | [], HRW, HJ =>
        obtain ⟨a3, c3, hv3, _, _, _, _⟩ := HRW.out.elem
        simp only [List.length_nil] at hv3
        subst hv3
        have hC := constR_calls 2 wr
        clear HRW hrw
        go_wp2_with fail
        refine hC.mono ?_
        rintro e w8 ⟨rfl, g8⟩
        have HZ8 := Lib.hid ((g8.below.block B (Array.getElem?_eq_some_iff.1 HZ.out).1).trans HZ.out)
        have HBE := Lib.hid (HBF.out.trans (g8.below.mono HBF.out.size))
        clear hC g8
        obtain ⟨⟨r0, r1, r2, r3⟩, z0, z1, z2, z3⟩ := cells4_of HZ8.out
        go_wp2_with fail
        obtain ⟨h8, g8⟩ := out4 HZ8.out (.int .i64 0) (.int .i64 2) (.int .i64 0) (.slice none 0 0)
        obtain ⟨W8, hW8⟩ : ∃ W8, Hid (W8 = (((w8.setCell ⟨B, 0, none⟩ (.int .i64 0)).setCell ⟨B, 1, none⟩ (.int .i64 2)).setCell ⟨B, 2, none⟩ (.int .i64 0)).setCell ⟨B, 3, none⟩ (.slice none 0 0)) := ⟨_, Lib.hid rfl⟩
        rw [← hW8.out] at h8 g8 ⊢
        obtain ⟨⟨j0, j1, j2, j3⟩, _⟩ := cells4_of h8
        refine bodyPost_ret (v := .agg #[.int .i64 0, .int .i64 2, .int .i64 0, .slice none 0 0]) ?_ rfl ?_
        · simp [results, Try.f37, go_sem, j0, j1, j2, j3]
        · refine ⟨0, 2, 0, [], none, 0, 0, W8.heap.size, W8.heap.size, rfl, ?_, Nat.le_trans HN.out (Nat.le_trans HBE.out.size g8.size), fitR_nil _ _ _ (Nat.le_refl _), HBE.out.grown g8 HBE.out.size (fun j e => by have := Option.some.inj e; have := hB.out; omega), trivial⟩
          exact HJ.out
      | [f], HRW, HJ =>
        obtain ⟨a3, c3, hv3, _, _, _, hel⟩ := HRW.out.elem
        obtain ⟨b3, ⟨op3, v3, x3, a4, n4, c4⟩, bs3, lo3, hi3, ha3, hb3, hfe3, k0, k1, k2, k3, hlo3, hF3, hhi3⟩ := hel 0 f rfl
        dsimp only at hfe3 k0 k1 k2 k3 hF3
        simp only [Nat.zero_mul, Nat.zero_add] at k0 k1 k2 k3
        simp only [List.length_singleton] at hv3
        subst ha3
        subst hv3
        have HF3 := Lib.hid hF3
        have HHI := Lib.hid hhi3
        have HFE := Lib.hid hfe3
        have HLO3 := Lib.hid hlo3
        have HBE := HBF
        clear hel hb3 hfe3 hlo3 hF3 hhi3 HRW hrw
        obtain ⟨⟨r0, r1, r2, r3⟩, z0, z1, z2, z3⟩ := cells4_of HZ.out
        go_wp2_with fail
        obtain ⟨h8, g8⟩ := out4 HZ.out (.int .i64 op3) (.int .i64 v3) (.int .i64 x3) (.slice a4 n4 c4)
        obtain ⟨W8, hW8⟩ : ∃ W8, Hid (W8 = (((wr.setCell ⟨B, 0, none⟩ (.int .i64 op3)).setCell ⟨B, 1, none⟩ (.int .i64 v3)).setCell ⟨B, 2, none⟩ (.int .i64 x3)).setCell ⟨B, 3, none⟩ (.slice a4 n4 c4)) := ⟨_, Lib.hid rfl⟩
        rw [← hW8.out] at h8 g8 ⊢
        obtain ⟨⟨j0, j1, j2, j3⟩, _⟩ := cells4_of h8
        refine bodyPost_ret (v := .agg #[.int .i64 op3, .int .i64 v3, .int .i64 x3, .slice a4 n4 c4]) ?_ rfl ?_
        · simp [results, Try.f37, go_sem, j0, j1, j2, j3]
        · have hkp : Keeps lo3 hi3 wr W8 := Keeps.of_grown g8 HF3.out.top (fun j e => by have := Option.some.inj e; have := HHI.out; omega)
          refine ⟨op3, v3, x3, bs3, a4, n4, c4, lo3, hi3, rfl, ?_, HLO3.out, HF3.out.keeps hkp, HBE.out.grown g8 HBE.out.size (fun j e => by have := Option.some.inj e; have := hB.out; omega), trivial⟩
          rw [HJ.out]
          exact HFE.out
      | f1 :: f2 :: fr, HRW, HJ =>
        obtain ⟨a3, c3, hv3, hc3, hc4, hab, _⟩ := HRW.out.elem
        obtain ⟨L2, hL2⟩ : ∃ L2, (f1 :: f2 :: fr).length = L2 := ⟨_, rfl⟩
        rw [hL2] at hv3 hc3
        have hLb2 : L2 ≤ 9223372036854775807 := by unfold maxLen at hc4; omega
        have hL0 : ((L2 : Int) == 0) = false := by rw [← hL2]; exact beq_eq_false_iff_ne.2 (by simp; omega)
        have hL1 : ((L2 : Int) == 1) = false := by rw [← hL2]; exact beq_eq_false_iff_ne.2 (by simp; omega)
        have HL2 := Lib.hid hL2
        have HBE := HBF
        subst hv3
        clear hab hc3 hc4 hL2 hrw
        obtain ⟨⟨r0, r1, r2, r3⟩, z0, z1, z2, z3⟩ := cells4_of HZ.out
        go_wp2_with fail
        obtain ⟨h8, g8⟩ := out4 HZ.out (.int .i64 2) (.int .i64 0) (.int .i64 0) (.slice a3 L2 c3)
        obtain ⟨W8, hW8⟩ : ∃ W8, Hid (W8 = (((wr.setCell ⟨B, 0, none⟩ (.int .i64 2)).setCell ⟨B, 1, none⟩ (.int .i64 0)).setCell ⟨B, 2, none⟩ (.int .i64 0)).setCell ⟨B, 3, none⟩ (.slice a3 L2 c3)) := ⟨_, Lib.hid rfl⟩
        rw [← hW8.out] at h8 g8 ⊢
        obtain ⟨⟨j0, j1, j2, j3⟩, _⟩ := cells4_of h8
        refine bodyPost_ret (v := .agg #[.int .i64 2, .int .i64 0, .int .i64 0, .slice a3 L2 c3]) ?_ rfl ?_
        · simp [results, Try.f37, go_sem, j0, j1, j2, j3]
        · obtain ⟨cs, hrow, htw, hown⟩ := HRW.out.row
          have hrow8 := hrow.grown g8 (fun j hj e => by have := hown j hj; omega)
          have htw8 := htw.grown g8 (fun j e => by have := Option.some.inj e; omega)
          obtain ⟨a9, c9, hv9, hF9⟩ := fitR_of_row hrow8 (htw8.toL (fun j hj => Nat.le_of_lt (hown j hj)))
          rw [HL2.out] at hv9 hF9
          cases hv9
          refine ⟨2, 0, 0, f1 :: f2 :: fr, a3, L2, c3, N, W8.heap.size, rfl, ?_, Nat.le_refl _, hF9, HBE.out.grown g8 HBE.out.size (fun j e => by have := Option.some.inj e; have := hB.out; omega), trivial⟩
          rw [HJ.out]
          rfl
end Go.Proofs.Ytmdanfeilgeoaaa
