/- gimletref14.put. Printed by wip/mkrefput.py. -/
import Derived.Test.YtmdanfeilgeoaaaKRefCmp
namespace Gim
open Go Go.RowKit Go.Sort Go.Proofs Go.Lib
/-- what put makes of the first ones: is the new one in, the list -/
def putStep (f : Fm) (s : Bool × List Fm) (g : Fm) : Bool × List Fm := if ordF f g < 0 ∧ (s.1 || decide (ordF f g = 0)) = false then (true, s.2 ++ [f, g]) else (s.1 || decide (ordF f g = 0), s.2 ++ [g])
def putR (f : Fm) (l : List Fm) : Bool × List Fm := l.foldl (putStep f) (false, [])
theorem putR_snoc (f : Fm) (l : List Fm) (g : Fm) : putR f (l ++ [g]) = putStep f (putR f l) g := by unfold putR; rw [List.foldl_append]; rfl
theorem putStep_done (f : Fm) : ∀ (l : List Fm) (acc : List Fm), l.foldl (putStep f) (true, acc) = (true, acc ++ l)
  | [], acc => by simp
  | g :: r, acc => by
    rw [List.foldl_cons]
    have : putStep f (true, acc) g = (true, acc ++ [g]) := by simp [putStep]
    rw [this, putStep_done f r]
    simp
theorem putR_from (f : Fm) : ∀ (l : List Fm) (acc : List Fm), (if (l.foldl (putStep f) (false, acc)).1 = true then (l.foldl (putStep f) (false, acc)).2 else (l.foldl (putStep f) (false, acc)).2 ++ [f]) = acc ++ putF f l
  | [], acc => by simp [putF]
  | g :: r, acc => by
    have ih := putR_from f r (acc ++ [g])
    rw [List.foldl_cons]
    unfold putF
    by_cases h0 : ordF f g = 0
    · rw [if_pos h0]
      have : putStep f (false, acc) g = (true, acc ++ [g]) := by simp [putStep, h0]
      rw [this, putStep_done]
      simp
    · rw [if_neg h0]
      by_cases h1 : ordF f g < 0
      · rw [if_pos h1]
        have : putStep f (false, acc) g = (true, acc ++ [f, g]) := by simp [putStep, h0, h1]
        rw [this, putStep_done]
        simp
      · rw [if_neg h1]
        have : putStep f (false, acc) g = (false, acc ++ [g]) := by simp [putStep, h0, h1]
        rw [this, ih]
        simp
/-- what put answers in the end -/
theorem putR_end (f : Fm) (l : List Fm) : (if (putR f l).1 = true then (putR f l).2 else (putR f l).2 ++ [f]) = putF f l := by
  have := putR_from f l []
  rw [List.nil_append] at this
  exact this
theorem putR_len (f : Fm) (l : List Fm) : (putR f l).2.length ≤ l.length + 1 := by
  have h : ∀ (l : List Fm) (s : Bool × List Fm), (l.foldl (putStep f) s).2.length + (if (l.foldl (putStep f) s).1 = true then 0 else 1) ≤ s.2.length + l.length + (if s.1 = true then 0 else 1) := by
    intro l
    induction l with
    | nil => exact fun s => Nat.le_refl _
    | cons g r ih =>
      intro s
      rw [List.foldl_cons]
      have h1 := ih (putStep f s g)
      have h2 : (putStep f s g).2.length + (if (putStep f s g).1 = true then 0 else 1) ≤ s.2.length + 1 + (if s.1 = true then 0 else 1) := by
        obtain ⟨d, acc⟩ := s
        unfold putStep
        cases d <;> by_cases h0 : ordF f g = 0 <;> by_cases h1 : ordF f g < 0 <;> simp [h0, h1]
      simp only [List.length_cons]
      omega
  have := h l (false, [])
  unfold putR
  simp at this
  omega
end Gim
namespace Go.Proofs.Ytmdanfeilgeoaaa
open Go.RowKit Gim Go.Sort Go.Lib
/-- the elements of a slice, to be read, each in robust memory -/
structure RowR (N : Nat) (w : World) (fs : List Fm) (v : Value) : Prop where
  row : ∃ cs, Row4 w N v cs ∧ TwL N w v.ownBlock cs fs
theorem RowR.below {N : Nat} {w w' : World} {fs : List Fm} {v : Value} (h : RowR N w fs v) (hb : Below w.heap.size w w') : RowR N w' fs v := by
  obtain ⟨cs, h1, h2⟩ := h.row
  exact ⟨cs, h1.stays hb, h2.below hb⟩
/-- an element of such a slice -/
theorem RowR.elem {N : Nat} {w : World} {fs : List Fm} {v : Value} (h : RowR N w fs v) : ∃ a cap, v = .slice a fs.length cap ∧ fs.length ≤ cap ∧ cap ≤ maxLen ∧ ∀ i f, fs[i]? = some f → ∃ (b : Nat) (c : N4) (bs : List Fm) (lo hi : Nat), a = some ⟨b, 0, none⟩ ∧ b < w.heap.size ∧ f = Fm.mk c.1 c.2.1 c.2.2.1 bs ∧
    w.cell? ⟨b, i * 4, none⟩ = some (.int .i64 c.1) ∧ w.cell? ⟨b, i * 4 + 1, none⟩ = some (.int .i64 c.2.1) ∧ w.cell? ⟨b, i * 4 + 2, none⟩ = some (.int .i64 c.2.2.1) ∧ w.cell? ⟨b, i * 4 + 3, none⟩ = some (.slice c.2.2.2.1 c.2.2.2.2.1 c.2.2.2.2.2) ∧ N ≤ lo ∧ FitR lo hi w bs c.2.2.2.1 c.2.2.2.2.1 c.2.2.2.2.2 ∧ hi ≤ w.heap.size := by
  obtain ⟨cs, h1, h2⟩ := h.row
  rcases row4_cases h1 with ⟨rfl, rfl⟩ | ⟨g, cap, rfl, hN, hR⟩
  · have hl : fs.length = 0 := by rw [← h2.len]; rfl
    obtain rfl : fs = [] := List.eq_nil_of_length_eq_zero hl
    exact ⟨none, 0, rfl, Nat.le_refl _, Nat.zero_le _, fun i f hf => by simp at hf⟩
  · have hc := hR
    obtain ⟨cur, _, hc1, hc2, _⟩ := hc
    refine ⟨_, cap, by rw [h2.len], by rw [← h2.len]; exact hc1, hc2, fun i f hf => ?_⟩
    have hi : i < cs.length := by rw [h2.len]; exact (List.getElem?_eq_some_iff.1 hf).1
    have hcs : cs[i]? = some cs[i] := List.getElem?_eq_getElem hi
    obtain ⟨k0, k1, k2, k3⟩ := hR.four hcs
    obtain ⟨bs, lo, hi, e, hlo, hF, _⟩ := h2.each i _ f hcs hf
    exact ⟨g, cs[i], bs, lo, hi, rfl, hR.lt, e, k0, k1, k2, k3, hlo, hF, hF.top⟩
/-- four cells stand for a formula whose parts lie in blocks from N to H -/
def Th (N H : Nat) (W : World) (c : N4) (f : Fm) : Prop :=
  ∃ gs lo hi, f = .mk c.1 c.2.1 c.2.2.1 gs ∧ N ≤ lo ∧ hi ≤ H ∧ FitR lo hi W gs c.2.2.2.1 c.2.2.2.2.1 c.2.2.2.2.2
structure TwH (N H : Nat) (W : World) (cs : List N4) (fs : List Fm) : Prop where
  len : cs.length = fs.length
  each : ∀ (i : Nat) (c : N4) (f : Fm), cs[i]? = some c → fs[i]? = some f → Th N H W c f
theorem TwH.nil (N H : Nat) (W : World) : TwH N H W [] [] := ⟨rfl, fun i c f h => by simp at h⟩
theorem TwH.below {N H : Nat} {W W2 : World} {cs : List N4} {fs : List Fm} (h : TwH N H W cs fs) (hb : Below W.heap.size W W2) : TwH N H W2 cs fs :=
  ⟨h.len, fun i c f h1 h2 => by
    obtain ⟨gs, lo, hi, e, hN, hH, hF⟩ := h.each i c f h1 h2
    exact ⟨gs, lo, hi, e, hN, hH, hF.keeps (Keeps.of_below hb hF.top)⟩⟩
theorem Th.grown {N H : Nat} {W W2 : World} {g : Option Nat} {c : N4} {f : Fm} (h : Th N H W c f) (hb : W.grownBy W2 g) (hg : ∀ j, g = some j → H ≤ j) : Th N H W2 c f := by
  obtain ⟨gs, lo, hi, e, hN, hH, hF⟩ := h
  exact ⟨gs, lo, hi, e, hN, hH, hF.keeps (Keeps.of_grown hb hF.top (fun j hj => .inr (Nat.le_trans hH (hg j hj))))⟩
theorem TwH.grown {N H : Nat} {W W2 : World} {g : Option Nat} {cs : List N4} {fs : List Fm} (h : TwH N H W cs fs) (hb : W.grownBy W2 g) (hg : ∀ j, g = some j → H ≤ j) : TwH N H W2 cs fs :=
  ⟨h.len, fun i c f h1 h2 => (h.each i c f h1 h2).grown hb hg⟩
theorem TwH.snoc {N H : Nat} {W : World} {cs : List N4} {fs : List Fm} {c : N4} {f : Fm} (h : TwH N H W cs fs) (k : Th N H W c f) : TwH N H W (cs ++ [c]) (fs ++ [f]) :=
  ⟨by simp [h.len], fun i c2 f2 h1 h2 => by
    by_cases hi : i < cs.length
    · rw [List.getElem?_append_left hi] at h1
      rw [List.getElem?_append_left (by rw [← h.len]; exact hi)] at h2
      exact h.each i c2 f2 h1 h2
    · rw [List.getElem?_append_right (by omega)] at h1
      rw [List.getElem?_append_right (by rw [← h.len]; omega), ← h.len] at h2
      obtain ⟨m, hm⟩ : ∃ m, i - cs.length = m := ⟨_, rfl⟩
      rw [hm] at h1 h2
      cases m with
      | zero => simp at h1 h2; rw [← h1, ← h2]; exact k
      | succ m => simp at h1⟩
theorem TwH.toL {N H : Nat} {W : World} {cs : List N4} {fs : List Fm} (h : TwH N H W cs fs) {g : Option Nat} (hg : ∀ j, g = some j → H ≤ j) : TwL N W g cs fs :=
  ⟨h.len, fun i c f h1 h2 => by
    obtain ⟨gs, lo, hi, e, hN, hH, hF⟩ := h.each i c f h1 h2
    exact ⟨gs, lo, hi, e, hN, hF, fun j hj => .inr (Nat.le_trans hH (hg j hj))⟩⟩
/-- a list made of elements below H -/
structure RowQ (N H : Nat) (w : World) (fs : List Fm) (v : Value) : Prop where
  row : ∃ cs, Row4 w N v cs ∧ TwH N H w cs fs ∧ ∀ j, v.ownBlock = some j → H < j
theorem RowQ.toR {N H : Nat} {w : World} {fs : List Fm} {v : Value} (h : RowQ N H w fs v) : RowR N w fs v := by
  obtain ⟨cs, h1, h2, h3⟩ := h.row
  exact ⟨cs, h1, h2.toL (fun j hj => Nat.le_of_lt (h3 j hj))⟩
theorem RowQ.nil (N H : Nat) (w : World) : RowQ N H w [] (.slice none 0 0) := ⟨[], Row4.nil _ _, TwH.nil _ _ _, fun j hj => by cases hj⟩
theorem RowQ.below {N H : Nat} {w w' : World} {fs : List Fm} {v : Value} (h : RowQ N H w fs v) (hb : Below w.heap.size w w') : RowQ N H w' fs v := by
  obtain ⟨cs, h1, h2, h3⟩ := h.row
  exact ⟨cs, h1.stays hb, h2.below hb, h3⟩
theorem RowQ.elem {N H : Nat} {w : World} {fs : List Fm} {v : Value} (h : RowQ N H w fs v) : ∃ a cap, v = .slice a fs.length cap ∧ fs.length ≤ cap ∧ cap ≤ maxLen ∧ (∀ b, a = some b → H < b.block) ∧ ∀ i f, fs[i]? = some f → ∃ (b : Nat) (c : N4) (bs : List Fm) (lo hi : Nat), a = some ⟨b, 0, none⟩ ∧ b < w.heap.size ∧ f = Fm.mk c.1 c.2.1 c.2.2.1 bs ∧
    w.cell? ⟨b, i * 4, none⟩ = some (.int .i64 c.1) ∧ w.cell? ⟨b, i * 4 + 1, none⟩ = some (.int .i64 c.2.1) ∧ w.cell? ⟨b, i * 4 + 2, none⟩ = some (.int .i64 c.2.2.1) ∧ w.cell? ⟨b, i * 4 + 3, none⟩ = some (.slice c.2.2.2.1 c.2.2.2.2.1 c.2.2.2.2.2) ∧ N ≤ lo ∧ FitR lo hi w bs c.2.2.2.1 c.2.2.2.2.1 c.2.2.2.2.2 ∧ hi ≤ H := by
  obtain ⟨cs, h1, h2, h3⟩ := h.row
  rcases row4_cases h1 with ⟨rfl, rfl⟩ | ⟨g, cap, rfl, hN, hR⟩
  · have hl : fs.length = 0 := by rw [← h2.len]; rfl
    obtain rfl : fs = [] := List.eq_nil_of_length_eq_zero hl
    exact ⟨none, 0, rfl, Nat.le_refl _, Nat.zero_le _, fun b hb => (by cases hb), fun i f hf => by simp at hf⟩
  · have hc := hR
    obtain ⟨cur, _, hc1, hc2, _⟩ := hc
    refine ⟨_, cap, by rw [h2.len], by rw [← h2.len]; exact hc1, hc2, fun b hb => (by cases hb; exact h3 g rfl), fun i f hf => ?_⟩
    have hi : i < cs.length := by rw [h2.len]; exact (List.getElem?_eq_some_iff.1 hf).1
    have hcs : cs[i]? = some cs[i] := List.getElem?_eq_getElem hi
    obtain ⟨k0, k1, k2, k3⟩ := hR.four hcs
    obtain ⟨bs, lo, hi, e, hlo, hH, hF⟩ := h2.each i _ f hcs hf
    exact ⟨g, cs[i], bs, lo, hi, rfl, hR.lt, e, k0, k1, k2, k3, hlo, hF, hH⟩
set_option maxRecDepth 100000 in
set_option maxHeartbeats 8000000 in
theorem put_calls (N H : Nat) (fs : List Fm) (vl : Value) (op v x : Int) (gs : List Fm) (a : Option Addr) (n cap : Nat) (lo0 hi0 : Nat) (w : World) (hr : RowQ N H w fs vl) (hN : N ≤ w.heap.size) (hH : H < w.heap.size) (hlo : N ≤ lo0) (htop : hi0 ≤ H) (hF : FitR lo0 hi0 w gs a n cap) (hsz : fs.length < 549755813888) :
    Calls Try.prog 53 #[vl, .agg #[.int .i64 op, .int .i64 v, .int .i64 x, .slice a n cap]] w fun e w' => ∃ vl', e = .returned vl' ∧ RowQ N H w' (putF (.mk op v x gs) fs) vl' ∧ Below w.heap.size w w' := by
  obtain ⟨al, cl, hvl, hcl, hcm, _, hel⟩ := hr.elem
  obtain ⟨L, hL⟩ : ∃ L, fs.length = L := ⟨_, rfl⟩
  rw [hL] at hvl hcl hsz
  subst hvl
  have hLb : L ≤ 9223372036854775807 := by omega
  have hg1 : Grows w (w.alloc (.cells #[.int .i64 op, .int .i64 v, .int .i64 x, .slice a n cap] 26)) := (Grows.refl _).alloc _
  have hbx := heap_alloc_new w (.cells #[.int .i64 op, .int .i64 v, .int .i64 x, .slice a n cap] 26)
  obtain ⟨W1, hW1⟩ : ∃ W1, w.alloc (.cells #[.int .i64 op, .int .i64 v, .int .i64 x, .slice a n cap] 26) = W1 := ⟨_, rfl⟩
  have hr1 := hr.below hg1.below
  have hF1 := hF.keeps (Keeps.of_below hg1.below hF.top)
  rw [hW1] at hg1 hbx hr1 hF1
  have HG1 := Lib.hid hg1
  have HH := Lib.hid (Nat.le_trans (Nat.le_of_lt hH) hg1.below.size)
  have HHS := Lib.hid (Nat.lt_of_lt_of_le hH hg1.below.size)
  have HBX := Lib.hid hbx
  have HR1 := Lib.hid hr1
  have HF1 := Lib.hid hF1
  have HLL := Lib.hid hL
  have HN := Lib.hid hN
  have HLO := Lib.hid hlo
  have HTOP := Lib.hid htop
  clear hH htop hel hcm hr hF hg1 hbx hr1 hF1 hL hN hlo
  go_enter Try.func53, Try.ntmps53
  go_upto_region 1 with fail
  try rw [hW1]
  clear hW1
  obtain ⟨B, hB⟩ : ∃ B, Hid (w.heap.size = B) := ⟨_, Lib.hid rfl⟩
  rw [hB.out] at HBX ⊢
  go_wp2_with fail
  go_loopw [5, 6, 12] (fun vv dd i wr => ∃ (q : Nat) (cs : List N4), i = .int .i64 q ∧ q ≤ L ∧ dd = .bool (putR (.mk op v x gs) (fs.take q)).1 ∧ Row4 wr N vv cs ∧ TwH N H wr cs (putR (.mk op v x gs) (fs.take q)).2 ∧ (∀ j, vv.ownBlock = some j → W1.heap.size ≤ j) ∧ Below W1.heap.size W1 wr) (fun _ _ i _ => L - (RowKit.intOf i).toNat)
  case atStart => exact ⟨0, [], rfl, Nat.zero_le _, rfl, Row4.nil _ _, TwH.nil _ _ _, (fun j hj => by cases hj), Below.refl _ _⟩
  case round =>
    obtain ⟨q, cs, rfl, hq, rfl, hrow, htw, hown, hbr⟩ := hrel
    have hNs : N ≤ wr.heap.size := Nat.le_trans HN.out (Nat.le_trans HG1.out.below.size hbr.size)
    obtain ⟨PS, hPS⟩ : ∃ PS, putR (.mk op v x gs) (fs.take q) = PS := ⟨_, rfl⟩
    obtain ⟨dn, acc⟩ := PS
    have hplen := putR_len (.mk op v x gs) (fs.take q)
    rw [hPS] at htw hplen ⊢
    have hcl2 : cs.length ≤ L + 1 := by
      rw [htw.len]
      have : (fs.take q).length ≤ L := by rw [List.length_take, HLL.out]; omega
      omega
    have hx := (hbr.block B (Array.getElem?_eq_some_iff.1 HBX.out).1).trans HBX.out
    obtain ⟨⟨k0, k1, k2, k3⟩, _⟩ := cells4_of hx
    have HFr := Lib.hid (HF1.out.keeps (Keeps.of_below hbr HF1.out.top))
    by_cases hqn : q < L
    · have hqn' : (q : Int) < L := by omega
      obtain ⟨al2, cl2, hvl2, _, _, _, hel2⟩ := (HR1.out.below hbr).elem
      rw [HLL.out] at hvl2
      cases hvl2
      have hfq : fs[q]? = some (fs[q]'(by have := HLL.out; omega)) := List.getElem?_eq_getElem _
      obtain ⟨b, c, bs, lo, hi, hal, hb, hfe, d0, d1, d2, d3, hlo, hFg, hhi⟩ := hel2 q _ hfq
      obtain ⟨op1, v1, x1, a1, n1, cap1⟩ := c
      dsimp only at hfe d0 d1 d2 d3 hFg
      rw [hfe] at hfq
      subst hal
      have hnx : putR (.mk op v x gs) (fs.take (q + 1)) = putStep (.mk op v x gs) (dn, acc) (.mk op1 v1 x1 bs) := by
        rw [take_next hfq, putR_snoc, hPS]
      have hgA : Grows wr (wr.alloc (.cells #[.int .i64 op1, .int .i64 v1, .int .i64 x1, .slice a1 n1 cap1] 26)) := (Grows.refl _).alloc _
      have hxA := heap_alloc_new wr (.cells #[.int .i64 op1, .int .i64 v1, .int .i64 x1, .slice a1 n1 cap1] 26)
      have hC := refCmp_calls op v x gs a n cap op1 v1 x1 bs a1 n1 cap1 _ (HFr.out.keeps (Keeps.of_below hgA.below HFr.out.top)).here (hFg.keeps (Keeps.of_below hgA.below hFg.top)).here
      obtain ⟨r, hr⟩ : ∃ r, ordF (.mk op v x gs) (.mk op1 v1 x1 bs) = r := ⟨_, rfl⟩
      rw [hr] at hC
      have HRR := Lib.hid hr
      have HNX := Lib.hid hnx
      have HROW := Lib.hid hrow
      have HTW := Lib.hid htw
      have HOWN := Lib.hid hown
      have HBR := Lib.hid hbr
      have HLO2 := Lib.hid hlo
      have HFG := Lib.hid hFg
      have HCL := Lib.hid hcl2
      have HGT : Hid (Th N H wr (op1, v1, x1, (a1, n1, cap1)) (.mk op1 v1 x1 bs)) := Lib.hid ⟨bs, lo, hi, rfl, hlo, hhi, hFg⟩
      clear hr hnx hrow htw hown hbr hlo hFg hcl2 hfq hfe hel2 hhi hPS hplen hb
      go_upto_region 6 with fail
      obtain ⟨wA, hwA⟩ : ∃ wA, wr.alloc (.cells #[.int .i64 op1, .int .i64 v1, .int .i64 x1, .slice a1 n1 cap1] 26) = wA := ⟨_, rfl⟩
      obtain ⟨A, hA⟩ : ∃ A, Hid (wr.heap.size = A) := ⟨_, Lib.hid rfl⟩
      rw [hwA] at hgA hxA hC ⊢
      rw [hA.out] at hxA ⊢
      obtain ⟨⟨e0, e1, e2, e3⟩, _⟩ := cells4_of hxA
      obtain ⟨⟨p0, p1, p2, p3⟩, _⟩ := cells4_of ((hgA.below.block B (Array.getElem?_eq_some_iff.1 hx).1).trans hx)
      have HXA := Lib.hid hxA
      have HGA := Lib.hid hgA
      have HX := Lib.hid hx
      clear hwA hgA hxA hx k0 k1 k2 k3 d0 d1 d2 d3
      go_wp2_with fail
      refine hC.mono ?_
      rintro e w2 ⟨rfl, g2⟩
      have hg2 := HGA.out.trans g2
      have hb2 := hg2.below
      have HB2 := Lib.hid (HBR.out.trans (hb2.mono HBR.out.size))
      have hrow2 := HROW.out.stays hb2
      have HROW2 := Lib.hid hrow2
      have htw2 := HTW.out.below hb2
      have HNS := Lib.hid (Nat.le_trans hNs hb2.size)
      have hNs2 : N ≤ w2.heap.size := Nat.le_trans hNs hb2.size
      have HFR2 := Lib.hid (HFr.out.keeps (Keeps.of_below hb2 HFr.out.top))
      have HTG : Hid (Th N H w2 (op1, v1, x1, (a1, n1, cap1)) (.mk op1 v1 x1 bs)) := Lib.hid ((⟨rfl, fun i c f h1 h2 => by cases i <;> simp at h1 h2; rw [← h1, ← h2]; exact HGT.out⟩ : TwH N H wr [(op1, v1, x1, (a1, n1, cap1))] [.mk op1 v1 x1 bs]).below hb2 |>.each 0 _ _ rfl rfl)
      have HXA2 := Lib.hid ((g2.below.block A (Array.getElem?_eq_some_iff.1 HXA.out).1).trans HXA.out)
      have HX2 := Lib.hid ((hb2.block B (Array.getElem?_eq_some_iff.1 HX.out).1).trans HX.out)
      have HTF : Hid (Th N H w2 (op, v, x, (a, n, cap)) (.mk op v x gs)) := Lib.hid ⟨gs, lo0, hi0, rfl, HLO.out, HTOP.out, HFR2.out⟩
      have HTW2 := Lib.hid htw2
      have HWS := Lib.hid HB2.out.size
      obtain ⟨⟨e0', e1', e2', e3'⟩, _⟩ := cells4_of HXA2.out
      obtain ⟨⟨p0', p1', p2', p3'⟩, _⟩ := cells4_of HX2.out
      clear hC g2 hg2 hb2 htw2 e0 e1 e2 e3 p0 p1 p2 p3 hNs
      have hroom : cs.length < 1099511627776 := by have := HCL.out; omega
      by_cases hr0 : r = 0
      · have hst : putStep (.mk op v x gs) (dn, acc) (.mk op1 v1 x1 bs) = (true, acc ++ [.mk op1 v1 x1 bs]) := by simp [putStep, HRR.out, hr0]
        subst hr0
        have HST := Lib.hid hst
        clear hst
        go_wp2_with (at_builtin; refine append4_at w2 rfl _ _ rfl N u5 cs rfl hrow2 (op1, v1, x1, (a1, n1, cap1)) rfl hroom hNs2 ?_; intro v' w9 hrow9 hgrow9 hown9)
        have hso : ∀ j, v'.ownBlock = some j → W1.heap.size ≤ j := fun j hj => by
          rcases hown9 with h | ⟨j2, h, hj2⟩
          · exact HOWN.out j (h.symm.trans hj)
          · have := HWS.out
            rw [hj] at h
            cases h
            omega
        have ht9 := (HTW2.out.snoc HTG.out).grown hgrow9 (fun j hj => Nat.le_trans HH.out (HOWN.out j hj))
        have HT9 := Lib.hid (show TwH N H w9 (cs ++ [(op1, v1, x1, (a1, n1, cap1))]) (putR (.mk op v x gs) (fs.take (q + 1))).2 by rw [HNX.out, HST.out]; exact ht9)
        have HD9 := Lib.hid (show (putR (.mk op v x gs) (fs.take (q + 1))).1 = true by rw [HNX.out, HST.out])
        have HB9 := Lib.hid (HB2.out.grown hgrow9 HB2.out.size HOWN.out)
        have HSO := Lib.hid hso
        clear hgrow9 hown9 hrow2 ht9 hso
        go_wp2_with fail
        go_roundw
        case rel => exact ⟨q + 1, _, by go_num, by omega, by rw [HD9.out], hrow9, HT9.out, HSO.out, HB9.out⟩
        case measure => simp [RowKit.intOf]; omega
      · have hr0' : (r == 0) = false := beq_eq_false_iff_ne.2 hr0
        by_cases hrn : r < 0
        · have hrn' : decide (r < 0) = true := decide_eq_true hrn
          cases dn
          · have hst : putStep (.mk op v x gs) (false, acc) (.mk op1 v1 x1 bs) = (true, acc ++ [.mk op v x gs, .mk op1 v1 x1 bs]) := by simp [putStep, HRR.out, hr0, hrn]
            clear hrn hr0
            have HST := Lib.hid hst
            have HNE := Lib.hid (show ∀ j, u5.ownBlock = some j → j ≠ A from fun j hj => by have := (HROW.out.lt j hj).2; have := hA.out; omega)
            clear hst
            go_wp2_with (first
              | (at_builtin; refine append4_at w2 rfl _ _ rfl N u5 cs rfl hrow2 (op, v, x, (a, n, cap)) rfl hroom hNs2 ?_; intro v8 w8 hrow8 hgrow8 hown8; have i := cells4_of ((hgrow8.block A (Array.getElem?_eq_some_iff.1 HXA2.out).1 (fun e => HNE.out A e.symm rfl)).trans HXA2.out); have i0 := i.1.1; have i1 := i.1.2.1; have i2 := i.1.2.2.1; have i3 := i.1.2.2.2; clear i; have hNs8 : N ≤ w8.heap.size := Nat.le_trans hNs2 hgrow8.size; have hroom8 : (cs ++ [(op, v, x, (a, n, cap))]).length < 1099511627776 := (by have := HCL.out; simp; omega))
              | (at_builtin; refine append4_at w8 rfl _ _ rfl N v8 (cs ++ [(op, v, x, (a, n, cap))]) rfl hrow8 (op1, v1, x1, (a1, n1, cap1)) rfl hroom8 hNs8 ?_; intro v' w9 hrow9 hgrow9 hown9))
            have hso8 : ∀ j, v8.ownBlock = some j → W1.heap.size ≤ j := fun j hj => by
              rcases hown8 with h | ⟨j2, h, hj2⟩
              · exact HOWN.out j (h.symm.trans hj)
              · have := HWS.out
                rw [hj] at h
                cases h
                omega
            have ht8 := (HTW2.out.snoc HTF.out).grown hgrow8 (fun j hj => Nat.le_trans HH.out (HOWN.out j hj))
            have HT8 := Lib.hid ht8
            have HROW8 := Lib.hid hrow8
            have HB8 := Lib.hid (HB2.out.grown hgrow8 HB2.out.size HOWN.out)
            have HSO8 := Lib.hid hso8
            have HG8 := Lib.hid hgrow8
            have HWS8 := Lib.hid HB8.out.size
            clear hgrow8 hown8 hrow2 ht8 hso8 e0' e1' e2' e3' p0' p1' p2' p3'
            have hso : ∀ j, v'.ownBlock = some j → W1.heap.size ≤ j := fun j hj => by
              rcases hown9 with h | ⟨j2, h, hj2⟩
              · exact HSO8.out j (h.symm.trans hj)
              · have := HWS8.out
                rw [hj] at h
                cases h
                omega
            have ht9 := (HT8.out.snoc (HTG.out.grown HG8.out (fun j hj => Nat.le_trans HH.out (HOWN.out j hj)))).grown hgrow9 (fun j hj => Nat.le_trans HH.out (HSO8.out j hj))
            have HT9 := Lib.hid (show TwH N H w9 (cs ++ [(op, v, x, (a, n, cap))] ++ [(op1, v1, x1, (a1, n1, cap1))]) (putR (.mk op v x gs) (fs.take (q + 1))).2 by rw [HNX.out, HST.out]; simpa using ht9)
            have HD9 := Lib.hid (show (putR (.mk op v x gs) (fs.take (q + 1))).1 = true by rw [HNX.out, HST.out])
            have HB9 := Lib.hid (HB8.out.grown hgrow9 HB8.out.size HSO8.out)
            have HSO := Lib.hid hso
            clear hgrow9 hown9 hrow8 ht9 hso
            go_wp2_with fail
            go_roundw
            case rel => exact ⟨q + 1, _, by go_num, by omega, by rw [HD9.out], hrow9, HT9.out, HSO.out, HB9.out⟩
            case measure => simp [RowKit.intOf]; omega
          · have hst : putStep (.mk op v x gs) (true, acc) (.mk op1 v1 x1 bs) = (true, acc ++ [.mk op1 v1 x1 bs]) := by simp [putStep]
            clear hrn hr0
            have HST := Lib.hid hst
            clear hst
            go_wp2_with (at_builtin; refine append4_at w2 rfl _ _ rfl N u5 cs rfl hrow2 (op1, v1, x1, (a1, n1, cap1)) rfl hroom hNs2 ?_; intro v' w9 hrow9 hgrow9 hown9)
            have hso : ∀ j, v'.ownBlock = some j → W1.heap.size ≤ j := fun j hj => by
              rcases hown9 with h | ⟨j2, h, hj2⟩
              · exact HOWN.out j (h.symm.trans hj)
              · have := HWS.out
                rw [hj] at h
                cases h
                omega
            have ht9 := (HTW2.out.snoc HTG.out).grown hgrow9 (fun j hj => Nat.le_trans HH.out (HOWN.out j hj))
            have HT9 := Lib.hid (show TwH N H w9 (cs ++ [(op1, v1, x1, (a1, n1, cap1))]) (putR (.mk op v x gs) (fs.take (q + 1))).2 by rw [HNX.out, HST.out]; exact ht9)
            have HD9 := Lib.hid (show (putR (.mk op v x gs) (fs.take (q + 1))).1 = true by rw [HNX.out, HST.out])
            have HB9 := Lib.hid (HB2.out.grown hgrow9 HB2.out.size HOWN.out)
            have HSO := Lib.hid hso
            clear hgrow9 hown9 hrow2 ht9 hso
            go_wp2_with fail
            go_roundw
            case rel => exact ⟨q + 1, _, by go_num, by omega, by rw [HD9.out], hrow9, HT9.out, HSO.out, HB9.out⟩
            case measure => simp [RowKit.intOf]; omega
        · have hrn' : decide (r < 0) = false := decide_eq_false hrn
          have hst : putStep (.mk op v x gs) (dn, acc) (.mk op1 v1 x1 bs) = (dn, acc ++ [.mk op1 v1 x1 bs]) := by simp [putStep, HRR.out, hr0, hrn]
          clear hrn hr0
          have HST := Lib.hid hst
          clear hst
          go_wp2_with (at_builtin; refine append4_at w2 rfl _ _ rfl N u5 cs rfl hrow2 (op1, v1, x1, (a1, n1, cap1)) rfl hroom hNs2 ?_; intro v' w9 hrow9 hgrow9 hown9)
          have hso : ∀ j, v'.ownBlock = some j → W1.heap.size ≤ j := fun j hj => by
            rcases hown9 with h | ⟨j2, h, hj2⟩
            · exact HOWN.out j (h.symm.trans hj)
            · have := HWS.out
              rw [hj] at h
              cases h
              omega
          have ht9 := (HTW2.out.snoc HTG.out).grown hgrow9 (fun j hj => Nat.le_trans HH.out (HOWN.out j hj))
          have HT9 := Lib.hid (show TwH N H w9 (cs ++ [(op1, v1, x1, (a1, n1, cap1))]) (putR (.mk op v x gs) (fs.take (q + 1))).2 by rw [HNX.out, HST.out]; exact ht9)
          have HD9 := Lib.hid (show (putR (.mk op v x gs) (fs.take (q + 1))).1 = dn by rw [HNX.out, HST.out])
          have HB9 := Lib.hid (HB2.out.grown hgrow9 HB2.out.size HOWN.out)
          have HSO := Lib.hid hso
          clear hgrow9 hown9 hrow2 ht9 hso
          go_wp2_with fail
          go_roundw
          case rel => exact ⟨q + 1, _, by go_num, by omega, by rw [HD9.out], hrow9, HT9.out, HSO.out, HB9.out⟩
          case measure => simp [RowKit.intOf]; omega
    · obtain rfl : q = L := by omega
      have hend := putR_end (.mk op v x gs) fs
      rw [List.take_of_length_le (by rw [HLL.out]; exact Nat.le_refl _)] at hPS
      rw [hPS] at hend
      have HEND := Lib.hid hend
      have HBR := Lib.hid hbr
      have HOWN := Lib.hid hown
      have HROW := Lib.hid hrow
      have HTW := Lib.hid htw
      have HX := Lib.hid hx
      have HBW := Lib.hid (HG1.out.below.trans (hbr.mono HG1.out.below.size))
      have hroom : cs.length < 1099511627776 := by omega
      clear hend hPS hbr hown htw hx
      cases dn
      · go_wp2_with (at_builtin; refine append4_at wr rfl _ _ rfl N u5 cs rfl hrow (op, v, x, (a, n, cap)) rfl hroom hNs ?_; intro v' w9 hrow9 hgrow9 hown9)
        have ht9 := (HTW.out.snoc (show Th N H wr (op, v, x, (a, n, cap)) (.mk op v x gs) from ⟨gs, lo0, hi0, rfl, HLO.out, HTOP.out, HFr.out⟩)).grown hgrow9 (fun j hj => Nat.le_trans HH.out (HOWN.out j hj))
        have hso : ∀ j, v'.ownBlock = some j → H < j := fun j hj => by
          rcases hown9 with h | ⟨j2, h, hj2⟩
          · exact Nat.lt_of_lt_of_le HHS.out (HOWN.out j (h.symm.trans hj))
          · have := Nat.lt_of_lt_of_le HHS.out HBR.out.size
            rw [hj] at h
            cases h
            omega
        have HSO := Lib.hid hso
        have HT9 := Lib.hid ht9
        have HRW9 := Lib.hid hrow9
        have HB9 := Lib.hid (HBW.out.grown hgrow9 HBW.out.size (fun j hj => Nat.le_trans HG1.out.below.size (HOWN.out j hj)))
        clear hso hgrow9 hown9 hrow9 ht9 k0 k1 k2 k3 hrow
        go_wp2_with fail
        go_ret
        refine ⟨_, rfl, ⟨_, HRW9.out, ?_, HSO.out⟩, HB9.out⟩
        have h5 := HEND.out
        simp only [Bool.false_eq_true, if_false] at h5
        rw [← h5]
        exact HT9.out
      · clear k0 k1 k2 k3 hrow
        go_wp2_with fail
        go_ret
        refine ⟨_, rfl, ⟨_, HROW.out, ?_, (fun j hj => Nat.lt_of_lt_of_le HHS.out (HOWN.out j hj))⟩, HBW.out⟩
        have h5 := HEND.out
        simp only [if_true] at h5
        rw [← h5]
        exact HTW.out
end Go.Proofs.Ytmdanfeilgeoaaa
