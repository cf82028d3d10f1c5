/- gimletlaw18.expr walked (under way). -/
import Derived.Test.YtkhejkfjhddobaaGreatDoorEntLawM
set_option maxHeartbeats 32000000
set_option linter.unusedSimpArgs false
namespace Go.Proofs.YtkhejkfjhddobaaGreatDoor
open Go.RowKit Gim
theorem getD_at {α : Type} {l : List α} {i : Nat} (h : i < l.length) (d : α) : l[i]? = some (l.getD i d) := by
 rw [jg, jk h]
 rfl
def XPo (x : Ex) (V : World) (e : Ending) (V' : World) : Prop :=
 ∃ (op : Int) (a1 : Option Addr) (n1 c1 : Nat) (a2 : Option Addr) (n2 c2 : Nat) (nm : ByteArray) (cmp : Int) (txt : ByteArray) (num : Int), e = .returned (.agg #[.int .i64 op, .slice a1 n1 c1, .slice a2 n2 c2, .string nm, .int .i64 cmp, .string txt, .int .i64 num]) ∧
  Rob V.heap.size V' none (fun W' => MX W' x ⟨op, a1, n1, c1, a2, n2, c2, nm, cmp, txt, num⟩) ∧ Below V.heap.size V V'
def XPk (nd : NetD) (mn : Int) (ra : Option Addr) (rn rc : Nat) (pa : Option Addr) (pn pc lo : Nat) : Prop :=
 ∀ (k : Nat) (V : World), lo ≤ k → k < nd.preds.length → FitRowS V nd.rows ra rn rc → FitPredS V nd.preds pa pn pc →
  Calls Tryz.prog 26 #[.agg #[.int .i64 mn, .slice ra rn rc, .slice pa pn pc], .int .i64 k] V (XPo (xN nd k) V)
set_option maxRecDepth 100000 in
theorem expr_next {nd : NetD} (mn : Int) (ra : Option Addr) (rn rc : Nat) (pa : Option Addr) (pn pc : Nat) (hd : NetDag nd) (hl : NLim nd) (k : Nat) (hk : k < nd.preds.length) (ih : XPk nd mn ra rn rc pa pn pc (k + 1)) (V : World) (hR : FitRowS V nd.rows ra rn rc) (hP : FitPredS V nd.preds pa pn pc) :
  Calls Tryz.prog 26 #[.agg #[.int .i64 mn, .slice ra rn rc, .slice pa pn pc], .int .i64 k] V (XPo (xN nd k) V) := by
 have hpn := hP.len
 have hkn : k < pn := by omega
 have hkn' : (k : Int) < pn := by omega
 have hple := hP.le
 have hpcl := hP.cap_le
 obtain ⟨b, o, rfl, hf⟩ := hP.fit k hkn
 obtain ⟨p, hp⟩ := je (nd.preds.getD k zp)
 obtain ⟨hbl, p0, p2, p3, p4, p5, p6, p7, aa, m, ac, p1, hrd⟩ := hf k p (by rw [← hp]; exact getD_at hk zp)
 have hlx := hl.lx k
 have hxe := xN_eq hd hk
 have hda := hd.args k hk
 have hdr := hd.rows k hk
 have hds := hd.ps k hk
 rw [hp] at hxe hda hdr hds hlx
 obtain ⟨op, args, first, count, attr, cmp, txt, num⟩ := p
 simp only at p0 p2 p3 p4 p5 p6 p7 hrd hxe hda hdr hds hlx
 obtain ⟨F, rfl⟩ := Int.eq_ofNat_of_zero_le hdr.1
 obtain ⟨C, rfl⟩ := Int.eq_ofNat_of_zero_le hdr.2.1
 have hdr := hdr.2.2
 simp only [Int.toNat_natCast] at hxe
 have hRl := hR.len
 have hRle := hR.le
 have hRcl := hR.cap_le
 have hsum := hl.sum
 have hCb : C ≤ 1048576 := by omega
 have hFb : F ≤ 1048576 := by omega
 have f9s : IntKind.i64.wrap ((F : Int) + C) = (F : Int) + C := IntWalk.i64_in _ (by omega)
 have hnb : rn ≤ 9223372036854775807 := by unfold maxLen at hRcl; omega
 have HLY := jh hl.ly
 have hml : m ≤ 1048576 := by have := hrd.len; omega
 obtain ⟨L, hL⟩ := je (V.heap.size)
 obtain ⟨W1, hW1⟩ := je ((((V.alloc (.cells #[.int .i64 mn, .slice ra rn rc, .slice (some ⟨b, o, none⟩) pn pc] 36)).alloc (.cells #[.int .i64 0, .slice none 0 0, .slice none 0 0, .string { data := #[] }, .int .i64 0, .string { data := #[] }, .int .i64 0] 66)).alloc (.cells #[.int .i64 op, .slice aa m ac, .int .i64 F, .int .i64 C, .string attr, .int .i64 cmp, .string txt, .int .i64 num] 59)).alloc (.cells #[.int .i64 op, .slice none 0 0, .slice none 0 0, .string attr, .int .i64 cmp, .string txt, .int .i64 num] 66))
 have hbL : b < L := by rw [← hL]; exact hbl
 have hbL1 : b < L + 1 := by omega
 have hbn : b ≠ L := by omega
 have hbn1 : b ≠ L + 1 := by omega
 have hs1 : W1.heap.size = L + 4 := by rw [← hW1, ← hL]; simp
 have hB1 : Below V.heap.size V W1 := by
  rw [← hW1]
  exact ((((jf _ _).alloc (jr _) _).alloc (by simp) _).alloc (by simp; omega) _).alloc (by simp; omega) _
 have hx0 : W1.heap[L]? = some (.cells #[.int .i64 mn, .slice ra rn rc, .slice (some ⟨b, o, none⟩) pn pc] 36) := by
  rw [← hW1, ← hL]
  exact (heap_alloc_old _ _ (by simp; omega)).trans ((heap_alloc_old _ _ (by simp; omega)).trans ((heap_alloc_old _ _ (by simp)).trans (jw _ _)))
 have hx3 : W1.heap[L + 3]? = some (.cells #[.int .i64 op, .slice none 0 0, .slice none 0 0, .string attr, .int .i64 cmp, .string txt, .int .i64 num] 66) := by
  rw [← hW1, ← hL]
  refine Eq.trans ?_ (jw (((V.alloc (.cells #[.int .i64 mn, .slice ra rn rc, .slice (some ⟨b, o, none⟩) pn pc] 36)).alloc (.cells #[.int .i64 0, .slice none 0 0, .slice none 0 0, .string { data := #[] }, .int .i64 0, .string { data := #[] }, .int .i64 0] 66)).alloc (.cells #[.int .i64 op, .slice aa m ac, .int .i64 F, .int .i64 C, .string attr, .int .i64 cmp, .string txt, .int .i64 num] 59)) _)
  simp
 have hx2 : W1.heap[L + 2]? = some (.cells #[.int .i64 op, .slice aa m ac, .int .i64 F, .int .i64 C, .string attr, .int .i64 cmp, .string txt, .int .i64 num] 59) := by
  rw [← hW1, ← hL]
  refine (heap_alloc_old _ _ (by simp)).trans (Eq.trans ?_ (jw ((V.alloc (.cells #[.int .i64 mn, .slice ra rn rc, .slice (some ⟨b, o, none⟩) pn pc] 36)).alloc (.cells #[.int .i64 0, .slice none 0 0, .slice none 0 0, .string { data := #[] }, .int .i64 0, .string { data := #[] }, .int .i64 0] 66)) _))
  simp
 have hx1 : W1.heap[L + 1]? = some (.cells #[.int .i64 0, .slice none 0 0, .slice none 0 0, .string { data := #[] }, .int .i64 0, .string { data := #[] }, .int .i64 0] 66) := by
  rw [← hW1, ← hL]
  refine (heap_alloc_old _ _ (by simp)).trans ((heap_alloc_old _ _ (by simp)).trans (Eq.trans ?_ (jw (V.alloc (.cells #[.int .i64 mn, .slice ra rn rc, .slice (some ⟨b, o, none⟩) pn pc] 36)) _)))
  simp
 have HST : Hid (XB (MX) cell7 7 V W1 [] 66 (L + 4) (L + 3) 66 (fun v => #[.int .i64 op, v, .slice none 0 0, .string attr, .int .i64 cmp, .string txt, .int .i64 num]) 0 (.slice none 0 0) [] W1) := jh (XB.start hB1 hs1.symm hx3)
 have HW1 := jh hW1
 have HL := jh hL
 have HX0 := jh hx0
 have HX2 := jh hx2
 have HX1 := jh hx1
 have HRD := jh hrd
 have HLN := jh hrd.len
 have HIH := jh ih
 have HXE := jh hxe
 have HDA := jh hda
 have HDR := jh hdr
 have HDS := jh hds
 have HRS := jh hR
 have HPS := jh hP
 clear hW1 hx0 hx1 hx2 hx3 hB1 hs1 hrd ih hxe hda hdr hds hR hP hf hp
 go_enter Tryz.func26, Tryz.ntmps26
 have HN3 : Hid (∀ wr : World, (∀ bb, V.heap.size ≤ bb → bb < L + 4 → bb ≠ L + 3 → wr.heap[bb]? = W1.heap[bb]?) → wr.heap[L]? = some (.cells #[.int .i64 mn, .slice ra rn rc, .slice (some ⟨b, o, none⟩) pn pc] 36) ∧ wr.heap[L + 2]? = some (.cells #[.int .i64 op, .slice aa m ac, .int .i64 F, .int .i64 C, .string attr, .int .i64 cmp, .string txt, .int .i64 num] 59) ∧ wr.heap[L + 1]? = some (.cells #[.int .i64 0, .slice none 0 0, .slice none 0 0, .string { data := #[] }, .int .i64 0, .string { data := #[] }, .int .i64 0] 66)) := jh fun wr h => by
  have hl := HL.out
  exact ⟨(h L (by omega) (by omega) (by omega)).trans HX0.out, (h (L + 2) (by omega) (by omega) (by omega)).trans HX2.out, (h (L + 1) (by omega) (by omega) (by omega)).trans HX1.out⟩
 go_wp2_with fail
 rw [HW1.out]
 clear hL p0 p1 p2 p3 p4 p5 p6 p7 hbl hbL hbL1 hbn hbn1
 go_loopw [7] (fun v7 wr => ∃ (q : Nat) (v : Value) (cs : List N7), v7 = .int .i64 q ∧ q ≤ m ∧ XB MX cell7 7 V W1 ((args.take q).map fun a => xN nd a.toNat) 66 (L + 4) (L + 3) 66 (fun v => #[.int .i64 op, v, .slice none 0 0, .string attr, .int .i64 cmp, .string txt, .int .i64 num]) q v cs wr) (fun v7 _ => m - (intOf v7).toNat)
 case atStart => exact ⟨0, _, [], rfl, jz _, HST.out⟩
 case round =>
  obtain ⟨q, v, cs, rfl, hq, hx⟩ := hrel
  obtain ⟨hb0, hb2, hb1⟩ := HN3.out wr hx.fix
  have z0 := jc hb0 0 rfl; have z1 := jc hb0 1 rfl; have z2 := jc hb0 2 rfl
  have y1 := jc hb2 1 rfl
  have x1 := jc hx.hx 1 rfl
  by_cases hqm : q < m
  ·have hqm' : (q : Int) < m := by omega
   obtain ⟨ba, oa, rfl, hba, hc⟩ := (HRD.out.below hx.bel).cell q hqm
   have k1 := hc q hqm
   have hk9 := get_gt (xs := args) (q := q) (by have := HLN.out; omega)
   obtain ⟨a9, ha9⟩ := je (gt args q)
   rw [ha9] at k1 hk9
   obtain ⟨g1, g2⟩ := HDA.out a9 (List.mem_of_getElem? hk9)
   obtain ⟨j, rfl⟩ := Int.eq_ofNat_of_zero_le (show 0 ≤ a9 by omega)
   have HC : Hid (∀ W', Below V.heap.size V W' → Calls Tryz.prog 26 #[.agg #[.int .i64 mn, .slice ra rn rc, .slice (some ⟨b, o, none⟩) pn pc], .int .i64 j] W' (XPo (xN nd j) W')) := jh fun W' hW => HIH.out j W' (by omega) (by omega) (HRS.out.below hW) (HPS.out.below hW)
   have HXB := jh hx
   have HKQ : Hid ((args.take (q + 1)).map (fun a => xN nd a.toNat) = (args.take q).map (fun a => xN nd a.toNat) ++ [xN nd j]) := jh (by rw [List.take_add_one, hk9, List.map_append]; rfl)
   have hxs : L + 3 < wr.heap.size := jl hx.hx
   have hzf : wr.frozen? ⟨L + 3, 1, none⟩ = false := by simp [World.frozen?, hx.hx]
   have HOWN : Hid (some (L + 3) ≠ v.ownBlock) := jh fun e => by
    have := (World.ownsRow.lt HXB.out.row _ e.symm).1
    omega
   have HQ4 : Hid (q < 1099511627776) := jh (by omega)
   have f9 : IntKind.i64.wrap ((q : Int) + 1) = (q : Int) + 1 := IntWalk.i64_in _ (by omega)
   clear hc ha9 hk9 g1 g2 hx hb0 hb2
   go_upto_region 6 with fail
   go_region_law (first
    | (go_simp; go_at_call 26; refine (HC.out _ (by first | exact HXB.out.bel | exact HXB.out.bel.drew)).mono ?_; rintro e w2 ⟨op2, e1, e2, e3, e4, e5, e6, nm2, cmp2, txt2, num2, rfl, hrob, honly⟩; have hb2 : Below wr.heap.size wr w2 := (by first | exact honly | exact ((jf _ _).drew).trans honly); have hrob2 : Rob wr.heap.size w2 none (fun W' => MX W' (xN nd j) ⟨op2, e1, e2, e3, e4, e5, e6, nm2, cmp2, txt2, num2⟩) := hrob; have hxb2 := (hb2.block _ hxs).trans HXB.out.hx; have hx2 : w2.cell? ⟨L + 3, 1, none⟩ = some v := (by simp [World.cell?, hxb2]); have hzf2 : w2.frozen? ⟨L + 3, 1, none⟩ = false := (by simp [World.frozen?, hxb2]); have hxs2 : L + 3 < w2.heap.size := jt hxs hb2.size; have HROB := jh hrob2; have HB2 := jh hb2; have HXB2 := jh hxb2; have HLT2 : Hid (w2.heap.size < (w2.alloc (.cells #[.int .i64 op2, .slice e1 e2 e3, .slice e4 e5 e6, .string nm2, .int .i64 cmp2, .string txt2, .int .i64 num2] 66)).heap.size) := jh (by rw [World.size_alloc]; exact Nat.lt_succ_self _); have HROW2 : Hid ((w2.alloc (.cells #[.int .i64 op2, .slice e1 e2 e3, .slice e4 e5 e6, .string nm2, .int .i64 cmp2, .string txt2, .int .i64 num2] 66)).ownsRow (L + 4) 66 7 v q (cs.flatMap cell7)) := jh (World.ownsRow.alloc (ownsRow_same HXB.out.row fun g hg => HB2.out.block g (World.ownsRow.lt HXB.out.row g hg).2) _); have HNEW2 : Hid (∀ j u, (cell7 ⟨op2, e1, e2, e3, e4, e5, e6, nm2, cmp2, txt2, num2⟩)[j]? = some u → (w2.alloc (.cells #[.int .i64 op2, .slice e1 e2 e3, .slice e4 e5 e6, .string nm2, .int .i64 cmp2, .string txt2, .int .i64 num2] 66)).cell? ⟨w2.heap.size, j, none⟩ = some u) := jh (cell7_new w2 ⟨op2, e1, e2, e3, e4, e5, e6, nm2, cmp2, txt2, num2⟩ 66); clear hrob hrob2 honly hb2 hxb2)
    | (refine step_appK _ (by rfl) (.tmp 36) (.tmp 44) 37 66 (by rfl) _ 7 104 info_expr Tryz.underlying37 (by rfl) (by decide) (by decide) (L + 4) v q (cs.flatMap cell7) (by rfl) HROW2.out (cell7 ⟨op2, e1, e2, e3, e4, e5, e6, nm2, cmp2, txt2, num2⟩) (by rfl) (cell7_one _) w2.heap.size (by rfl) HNEW2.out HQ4.out (ju HXB.out.size (ju HB2.out.size (Nat.le_of_lt HLT2.out))) ?_; intro v3 w3 own3 grow3 at3; obtain ⟨av, cv, rfl, _⟩ := own_slice own3; have hgr : w2.grownBy w3 v.ownBlock := ⟨grow3.os, grow3.tape, grow3.output, ju (Nat.le_of_lt HLT2.out) grow3.size, fun b hb hne => (grow3.block b (Nat.lt_trans hb HLT2.out) hne).trans (heap_alloc_old w2 _ hb)⟩; have hat : (Value.slice av (q + 1) cv).ownBlock = v.ownBlock ∨ ∃ j, (Value.slice av (q + 1) cv).ownBlock = some j ∧ w2.heap.size ≤ j := at3.elim .inl fun e => .inr ⟨_, e, Nat.le_of_lt HLT2.out⟩; have hxb3 := (hgr.block _ hxs2 HOWN.out).trans HXB2.out; have hx3 : w3.cell? ⟨L + 3, 1, none⟩ = some v := (by simp [World.cell?, hxb3]); have hzf3 : w3.frozen? ⟨L + 3, 1, none⟩ = false := (by simp [World.frozen?, hxb3]); have hxs3 : L + 3 < w3.heap.size := jt hxs2 hgr.size; have HG3 := jh hgr; have HAT3 := jh hat; have HOW3 := jh own3; clear own3 grow3 at3 hgr hat hxb3))
   all_goals
    go_wp2_with fail
    go_roundw
    case rel => exact ⟨q + 1, _, _, by go_num, by omega, by rw [HKQ.out]; exact HXB.out.next ⟨by rw [HL.out]; exact Nat.le_add_right _ _, Nat.lt_succ_self _⟩ 1 (fun _ _ => rfl) HB2.out HROB.out HOW3.out HG3.out HAT3.out⟩
    case measure => simp [intOf]; omega
  ·obtain rfl : q = m := by omega
   obtain ⟨aA, cA, rfl, _⟩ := own_slice hx.row
   have hxx := hx.hx
   have d2 := jc hb2 2 rfl
   have HXA := jh hx
   have HST2 : Hid (XB MT cell4s 4 V wr [] 64 wr.heap.size (L + 3) 66 (fun u => #[.int .i64 op, .slice aA q cA, u, .string attr, .int .i64 cmp, .string txt, .int .i64 num]) 0 (.slice none 0 0) [] wr) := jh (XB.start hx.bel rfl hxx)
   have HL4 : Hid (L + 4 ≤ wr.heap.size) := jh hx.size
   obtain ⟨w1, hw1⟩ := je (wr)
   rw [hw1] at HXA HST2 HL4 d2 z0 z1 z2 y1 x1 ⊢
   clear hx hxx hb0 hb1 hb2 hw1
   go_wp2_with fail
   clear d2 z0 z1 z2 y1 x1
   go_loopw [8] (fun v8 wr => ∃ (d : Nat) (u : Value) (cs2 : List N4s), v8 = .int .i64 ((F + d : Nat) : Int) ∧ d ≤ C ∧ XB MT cell4s 4 V w1 ((List.range' F d).map (tN nd)) 64 w1.heap.size (L + 3) 66 (fun u => #[.int .i64 op, .slice aA q cA, u, .string attr, .int .i64 cmp, .string txt, .int .i64 num]) d u cs2 wr) (fun v8 _ => F + C - (intOf v8).toNat)
   case atStart => exact ⟨0, _, [], rfl, jz _, HST2.out⟩
   case round =>
    revert hrel
    revert wr
    intro wo hrel
    obtain ⟨d, u, cs2, rfl, hd, hy⟩ := hrel
    obtain ⟨hb0, hb2, hb1⟩ := HN3.out wo fun bb h1 h2 h3 => (hy.fix bb h1 (by have := HL4.out; omega) h3).trans (HXA.out.fix bb h1 h2 h3)
    have hb3 := hy.hx
    have y2 := jc hb2 2 rfl; have y3 := jc hb2 3 rfl
    obtain ⟨e, he⟩ := je (F + d)
    rw [he]
    have HE := jh he
    by_cases hdC : d < C
    ·have hec : (e : Int) < (F : Int) + C := by omega
     have hen : e < rn := by omega
     obtain ⟨rb, ro, rfl, hfr⟩ := HRS.out.fit e hen
     obtain ⟨r, hr⟩ := je (nd.rows.getD e zr)
     obtain ⟨hrl, r0, r1, r2, pa2, m2, pc2, r3, hri⟩ := (hfr e r (by rw [← hr]; exact getD_at (by rw [hRl]; exact hen) zr)).below hy.bel
     have hps := HDS.out e (by omega) (by omega)
     have hly := HLY.out e
     rw [hr] at hps hly
     have HTN : Hid (tN nd e = .mk r.ax r.ts r.nm (r.ps.map fun a => xN nd a.toNat)) := jh (by unfold tN; rw [hr])
     obtain ⟨ax, tt, nm, ps⟩ := r
     simp only at r0 r1 r2 r3 hri hps hly HTN
     have z1 := jc hb0 1 rfl
     obtain ⟨W2, hW2⟩ := je ((wo.alloc (.cells #[.int .i64 ax, .int .i64 tt, .string nm, .slice pa2 m2 pc2] 55)).alloc (.cells #[.int .i64 ax, .int .i64 tt, .string nm, .slice none 0 0] 64))
     have hs2 : W2.heap.size = wo.heap.size + 2 := by rw [← hW2]; simp
     have hB2 : Below wo.heap.size wo W2 := by
      rw [← hW2]
      exact ((jf _ _).alloc (jr _) _).alloc (by simp) _
     have hq0 : W2.heap[wo.heap.size]? = some (.cells #[.int .i64 ax, .int .i64 tt, .string nm, .slice pa2 m2 pc2] 55) := by
      rw [← hW2]
      exact (heap_alloc_old _ _ (by simp)).trans (jw _ _)
     have hq1 : W2.heap[wo.heap.size + 1]? = some (.cells #[.int .i64 ax, .int .i64 tt, .string nm, .slice none 0 0] 64) := by
      rw [← hW2]
      refine Eq.trans ?_ (jw (wo.alloc (.cells #[.int .i64 ax, .int .i64 tt, .string nm, .slice pa2 m2 pc2] 55)) _)
      simp
     have HST3 : Hid (XB MX cell7 7 wo W2 [] 66 (wo.heap.size + 2) (wo.heap.size + 1) 64 (fun v => #[.int .i64 ax, .int .i64 tt, .string nm, v]) 0 (.slice none 0 0) [] W2) := jh (XB.start hB2 hs2.symm hq1)
     have HLN2 := jh hri.len
     have HM2 : Hid (m2 ≤ 1048576) := jh (by have := hri.len; omega)
     have hmm2 : m2 ≤ 9223372036854775807 := by have := HM2.out; omega
     have HQ0 := jh hq0
     have HRI := jh hri
     have HPS2 := jh hps
     have HW2 := jh hW2
     have HY := jh hy
     have hLo : L < wo.heap.size := jl hb0
     have hL3o : L + 3 < wo.heap.size := jl hb3
     have HB0 := jh hb0
     have HB3 := jh hb3
     clear hfr hri hps hly hr hs2 hB2 hq0 hq1 hW2 hy hb0 hb1 hb2 hb3
     go_wp2_with fail
     rw [HW2.out]
     clear r0 r1 r2 r3 z1 y2 y3
     go_loopw [11] (fun v11 wr => ∃ (q2 : Nat) (v : Value) (cs : List N7), v11 = .int .i64 q2 ∧ q2 ≤ m2 ∧ XB MX cell7 7 wo W2 ((ps.take q2).map fun a => xN nd a.toNat) 66 (wo.heap.size + 2) (wo.heap.size + 1) 64 (fun v => #[.int .i64 ax, .int .i64 tt, .string nm, v]) q2 v cs wr) (fun v11 _ => m2 - (intOf v11).toNat)
     case atStart => exact ⟨0, _, [], rfl, jz _, HST3.out⟩
     case round =>
      obtain ⟨q2, v, cs, rfl, hq2, hx⟩ := hrel
      have hbr : wr.heap[wo.heap.size]? = _ := (hx.fix wo.heap.size (jr _) (by omega) (by omega)).trans HQ0.out
      have y3 := jc hbr 3 rfl
      have hbL := (hx.bel.block L hLo).trans HB0.out
      have x3 := jc hx.hx 3 rfl
      by_cases hqm : q2 < m2
      ·have hqm' : (q2 : Int) < m2 := by omega
       obtain ⟨ba, oa, rfl, hba, hc⟩ := (HRI.out.below hx.bel).cell q2 hqm
       have k1 := hc q2 hqm
       have z0 := jc hbL 0 rfl; have z1 := jc hbL 1 rfl; have z2 := jc hbL 2 rfl
       have hk9 := get_gt (xs := ps) (q := q2) (by have := HLN2.out; omega)
       obtain ⟨a9, ha9⟩ := je (gt ps q2)
       rw [ha9] at k1 hk9
       obtain ⟨g1, g2⟩ := HPS2.out a9 (List.mem_of_getElem? hk9)
       obtain ⟨j, rfl⟩ := Int.eq_ofNat_of_zero_le (show 0 ≤ a9 by omega)
       have HC : Hid (∀ W', Below wo.heap.size wo W' → Calls Tryz.prog 26 #[.agg #[.int .i64 mn, .slice (some ⟨rb, ro, none⟩) rn rc, .slice (some ⟨b, o, none⟩) pn pc], .int .i64 j] W' (XPo (xN nd j) W')) := jh fun W' hW => by
        have hVW : Below V.heap.size V W' := HY.out.bel.trans (hW.mono HY.out.bel.size)
        exact HIH.out j W' (by omega) (by omega) (HRS.out.below hVW) (HPS.out.below hVW)
       have HXB := jh hx
       have HKQ : Hid ((ps.take (q2 + 1)).map (fun a => xN nd a.toNat) = (ps.take q2).map (fun a => xN nd a.toNat) ++ [xN nd j]) := jh (by rw [List.take_add_one, hk9, List.map_append]; rfl)
       have hxs : wo.heap.size + 1 < wr.heap.size := jl hx.hx
       have hzf : wr.frozen? ⟨wo.heap.size + 1, 3, none⟩ = false := by simp [World.frozen?, hx.hx]
       have HOWN : Hid (some (wo.heap.size + 1) ≠ v.ownBlock) := jh fun e => by
        have := (World.ownsRow.lt HXB.out.row _ e.symm).1
        omega
       have HQ4 : Hid (q2 < 1099511627776) := jh (by have := HM2.out; omega)
       have f9 : IntKind.i64.wrap ((q2 : Int) + 1) = (q2 : Int) + 1 := IntWalk.i64_in _ (by omega)
       clear hc ha9 hk9 g1 g2 hx hbr hbL
       go_upto_region 15 with fail
       go_region_law (first
        | (go_simp; go_at_call 26; refine (HC.out _ (by first | exact HXB.out.bel | exact HXB.out.bel.drew)).mono ?_; rintro e w2 ⟨op2, e1, e2, e3, e4, e5, e6, nm2, cmp2, txt2, num2, rfl, hrob, honly⟩; have hb2 : Below wr.heap.size wr w2 := (by first | exact honly | exact ((jf _ _).drew).trans honly); have hrob2 : Rob wr.heap.size w2 none (fun W' => MX W' (xN nd j) ⟨op2, e1, e2, e3, e4, e5, e6, nm2, cmp2, txt2, num2⟩) := hrob; have hxb2 := (hb2.block _ hxs).trans HXB.out.hx; have hx2 : w2.cell? ⟨wo.heap.size + 1, 3, none⟩ = some v := (by simp [World.cell?, hxb2]); have hzf2 : w2.frozen? ⟨wo.heap.size + 1, 3, none⟩ = false := (by simp [World.frozen?, hxb2]); have hxs2 : wo.heap.size + 1 < w2.heap.size := jt hxs hb2.size; have HROB := jh hrob2; have HB2 := jh hb2; have HXB2 := jh hxb2; have HLT2 : Hid (w2.heap.size < (w2.alloc (.cells #[.int .i64 op2, .slice e1 e2 e3, .slice e4 e5 e6, .string nm2, .int .i64 cmp2, .string txt2, .int .i64 num2] 66)).heap.size) := jh (by rw [World.size_alloc]; exact Nat.lt_succ_self _); have HROW2 : Hid ((w2.alloc (.cells #[.int .i64 op2, .slice e1 e2 e3, .slice e4 e5 e6, .string nm2, .int .i64 cmp2, .string txt2, .int .i64 num2] 66)).ownsRow (wo.heap.size + 2) 66 7 v q2 (cs.flatMap cell7)) := jh (World.ownsRow.alloc (ownsRow_same HXB.out.row fun g hg => HB2.out.block g (World.ownsRow.lt HXB.out.row g hg).2) _); have HNEW2 : Hid (∀ j u, (cell7 ⟨op2, e1, e2, e3, e4, e5, e6, nm2, cmp2, txt2, num2⟩)[j]? = some u → (w2.alloc (.cells #[.int .i64 op2, .slice e1 e2 e3, .slice e4 e5 e6, .string nm2, .int .i64 cmp2, .string txt2, .int .i64 num2] 66)).cell? ⟨w2.heap.size, j, none⟩ = some u) := jh (cell7_new w2 ⟨op2, e1, e2, e3, e4, e5, e6, nm2, cmp2, txt2, num2⟩ 66); clear hrob hrob2 honly hb2 hxb2)
        | (refine step_appK _ (by rfl) (.tmp 78) (.tmp 86) 37 66 (by rfl) _ 7 104 info_expr Tryz.underlying37 (by rfl) (by decide) (by decide) (wo.heap.size + 2) v q2 (cs.flatMap cell7) (by rfl) HROW2.out (cell7 ⟨op2, e1, e2, e3, e4, e5, e6, nm2, cmp2, txt2, num2⟩) (by rfl) (cell7_one _) w2.heap.size (by rfl) HNEW2.out HQ4.out (ju HXB.out.size (ju HB2.out.size (Nat.le_of_lt HLT2.out))) ?_; intro v3 w3 own3 grow3 at3; obtain ⟨av, cv, rfl, _⟩ := own_slice own3; have hgr : w2.grownBy w3 v.ownBlock := ⟨grow3.os, grow3.tape, grow3.output, ju (Nat.le_of_lt HLT2.out) grow3.size, fun b hb hne => (grow3.block b (Nat.lt_trans hb HLT2.out) hne).trans (heap_alloc_old w2 _ hb)⟩; have hat : (Value.slice av (q2 + 1) cv).ownBlock = v.ownBlock ∨ ∃ j, (Value.slice av (q2 + 1) cv).ownBlock = some j ∧ w2.heap.size ≤ j := at3.elim .inl fun e => .inr ⟨_, e, Nat.le_of_lt HLT2.out⟩; have hxb3 := (hgr.block _ hxs2 HOWN.out).trans HXB2.out; have hx3 : w3.cell? ⟨wo.heap.size + 1, 3, none⟩ = some v := (by simp [World.cell?, hxb3]); have hzf3 : w3.frozen? ⟨wo.heap.size + 1, 3, none⟩ = false := (by simp [World.frozen?, hxb3]); have hxs3 : wo.heap.size + 1 < w3.heap.size := jt hxs2 hgr.size; have HG3 := jh hgr; have HAT3 := jh hat; have HOW3 := jh own3; clear own3 grow3 at3 hgr hat hxb3))
       all_goals
        go_wp2_with fail
        go_roundw
        case rel => exact ⟨q2 + 1, _, _, by go_num, by omega, by rw [HKQ.out]; exact HXB.out.next ⟨Nat.le_add_right _ _, Nat.lt_succ_self _⟩ 3 (fun _ _ => rfl) HB2.out HROB.out HOW3.out HG3.out HAT3.out⟩
        case measure => simp [intOf]; omega
      ·obtain rfl : q2 = m2 := by omega
       have hxb := hx.hx
       obtain ⟨a2, c2, rfl, _⟩ := own_slice hx.row
       have e0 := jc hxb 0 rfl; have e1 := jc hxb 1 rfl; have e2 := jc hxb 2 rfl
       have hxs : wo.heap.size + 1 < wr.heap.size := jl hxb
       have hp1 := (hx.bel.block _ hL3o).trans HB3.out
       have p2 := jc hp1 2 rfl
       have hys : L + 3 < wr.heap.size := jt hL3o hx.bel.size
       have hrow4 : wr.ownsRow w1.heap.size 64 4 u d (cs2.flatMap cell4s) := ownsRow_same HY.out.row fun g hg => hx.bel.block g (World.ownsRow.lt HY.out.row g hg).2
       have hcl : d < 1099511627776 := by omega
       have hbl : w1.heap.size ≤ wr.heap.size := ju HY.out.size hx.bel.size
       have HNE : Hid (some (L + 3) ≠ u.ownBlock) := jh fun e => by
        have := (World.ownsRow.lt HY.out.row _ e.symm).1
        have := HL4.out
        omega
       have hR4 : Rob wo.heap.size wr none (fun W' => MT W' (tN nd e) ⟨ax, tt, nm, a2, q2, c2⟩) := by
        have hel := hx.els
        have hle := hx.len
        rw [jm (by rw [HLN2.out]; exact jr _)] at hel hle
        obtain ⟨a, cap, e2, hR⟩ := rob_XS' hle (by rw [List.length_map, HLN2.out]) hx.row hel
        injection e2 with e3 e4 e5
        subst e3 e5
        rw [HTN.out]
        exact (hR.lower (by omega)).imp fun W' m => ⟨rfl, rfl, rfl, m⟩
       have HR4 := jh hR4
       have HBL4 := jh hx.bel
       have HP1 := jh hp1
       have HKD : Hid ((List.range' F (d + 1)).map (tN nd) = (List.range' F d).map (tN nd) ++ [tN nd e]) := jh (by
        rw [← List.range'_append (s := F) (m := d) (n := 1) (step := 1), List.map_append]
        simp [HE.out])
       have f9 : IntKind.i64.wrap ((e : Int) + 1) = (e : Int) + 1 := IntWalk.i64_in _ (by omega)
       clear hx hxb hp1 hR4 hbr hbL
       go_wp2_with (at_builtin; refine appendK wr rfl _ _ 23 64 rfl _ 4 56 info_step Tryz.underlying23 (by rfl) (by decide) (by decide) w1.heap.size u d (cs2.flatMap cell4s) rfl hrow4 (cell4s ⟨ax, tt, nm, a2, q2, c2⟩) (by rfl) (cell4s_one _) rfl hcl hbl ?_; intro v3 w3 own3 grow3 at3; obtain ⟨a3, c3, rfl, _⟩ := own_slice own3; have hxb3 := (grow3.block _ hys HNE.out).trans HP1.out; have hx3 : w3.cell? ⟨L + 3, 2, none⟩ = some u := (by simp [World.cell?, hxb3]); have hzf3 : w3.frozen? ⟨L + 3, 2, none⟩ = false := (by simp [World.frozen?, hxb3]); have hxs3 : L + 3 < w3.heap.size := jt hys grow3.size; have hat : (Value.slice a3 (d + 1) c3).ownBlock = u.ownBlock ∨ ∃ j, (Value.slice a3 (d + 1) c3).ownBlock = some j ∧ wr.heap.size ≤ j := at3.elim .inl fun e => .inr ⟨_, e, Nat.le_succ _⟩; have HG3 := jh grow3; have HAT3 := jh hat; have HOW3 := jh own3; clear own3 grow3 at3 hat hxb3)
       have hE2 : e + 1 = F + (d + 1) := by omega
       go_roundw
       case rel =>
        exact ⟨d + 1, _, _, by go_num, by omega, by rw [HKD.out]; exact HY.out.next ⟨by rw [HL.out]; exact Nat.le_add_right _ _, by have := HL4.out; omega⟩ 2 (fun _ _ => rfl) HBL4.out HR4.out HOW3.out HG3.out HAT3.out⟩
       case measure => simp [intOf]; omega
    ·obtain rfl : d = C := by omega
     have hec : ¬ (e : Int) < (F : Int) + d := by omega
     obtain ⟨aT, cT, rfl, _⟩ := own_slice hy.row
     have e0 := jc hb3 0 rfl; have e1 := jc hb3 1 rfl; have e2 := jc hb3 2 rfl; have e3 := jc hb3 3 rfl; have e4 := jc hb3 4 rfl; have e5 := jc hb3 5 rfl; have e6 := jc hb3 6 rfl
     have q0 := jc hb1 0 rfl; have q1 := jc hb1 1 rfl; have q2 := jc hb1 2 rfl; have q3 := jc hb1 3 rfl; have q4 := jc hb1 4 rfl; have q5 := jc hb1 5 rfl; have q6 := jc hb1 6 rfl
     have zy : ∀ i, wo.frozen? ⟨L + 1, i, none⟩ = false := fun i => by simp [World.frozen?, hb1]
     have hL1o : L + 1 < wo.heap.size := jl hb1
     have HY := jh hy
     clear hy hb0 hb1 hb2 hb3
     go_wp2_with fail
     refine bodyPost_ret (v := .agg #[.int .i64 op, .slice aA q cA, .slice aT d cT, .string attr, .int .i64 cmp, .string txt, .int .i64 num]) ?_ rfl ?_
     ·simp [results, Tryz.f26, go_sem, q0, q1, q2, q3, q4, q5, q6]
     ·have hc := chain7 wo (L + 1) (.int .i64 op) (.slice aA q cA) (.slice aT d cT) (.string attr) (.int .i64 cmp) (.string txt) (.int .i64 num)
      obtain ⟨a1, c1, a2, c2, g1, g2, hR⟩ := xb_end HXA.out HY.out (Nat.lt_succ_self _) (by rw [HL.out]; exact Nat.le_add_right _ _) (by rw [List.length_map, List.length_take, HLN.out, Nat.min_self]) (by rw [List.length_map, List.length_range']) (Nat.le_of_eq hc.size) (fun b h1 h2 => hc.block b (by omega)) op attr cmp txt num
      injection g1 with g3 g4 g5
      injection g2 with g6 g7 g8
      subst g3 g5 g6 g8
      rw [jm (by rw [HLN.out]; exact jr _), ← HXE.out] at hR
      exact ⟨op, aA, q, cA, aT, d, cT, attr, cmp, txt, num, rfl, hR, HY.out.bel.trans (hc.below (by rw [HL.out]; exact Nat.le_succ _))⟩
theorem xexpr_calls {nd : NetD} (mn : Int) (ra : Option Addr) (rn rc : Nat) (pa : Option Addr) (pn pc : Nat) (hd : NetDag nd) (hl : NLim nd) : ∀ (f lo : Nat), nd.preds.length - lo ≤ f → XPk nd mn ra rn rc pa pn pc lo
 | 0, lo, hf => fun k V h1 h2 _ _ => by omega
 | f + 1, lo, hf => fun k V h1 h2 hR hP => expr_next mn ra rn rc pa pn pc hd hl k h2 (xexpr_calls mn ra rn rc pa pn pc hd hl f (k + 1) (by omega)) V hR hP
theorem below_set2 {n : Nat} {w w' : World} (h : Below n w w') (p : Addr) (v : Value) : Below n (w.setCell p v) (w'.setCell p v) :=
 ⟨h.os, h.tape, h.output, by rw [jv, jv]; exact h.size, fun b hb => by
  by_cases e : b = p.block
  ·subst e
   simp only [World.setCell, Array.getElem?_modify, if_true]
   rw [h.block _ hb]
  ·rw [js w' p v b e, js w p v b e]
   exact h.block b hb⟩
def StP (sts : List Gim.St) (w : World) (e : Ending) (w' : World) : Prop :=
 ∃ (W0 : World) (H : Nat) (tg : Nat → Nat × Nat) (ra : Option Addr) (rc : Nat) (pa : Option Addr) (pc : Nat) (la : Option Addr) (lc : Nat),
  e = .returned (.tuple #[.pointer (some ⟨H, 0, none⟩), .agg #[.int .i64 (comp sts).main, .slice ra (comp sts).rows.length rc, .slice pa (comp sts).preds.length pc], .slice la (comp sts).preds.length lc, .bool true]) ∧
  Below w.heap.size w W0 ∧ FitXS W0 ((List.range (comp sts).preds.length).map (xN (comp sts))) la (comp sts).preds.length lc ∧ NetOk (comp sts) ∧ HoX W0.heap.size w' tg H (comp sts) [openF (comp sts) 0 ByteArray.empty []] ck0 none ∧ Below W0.heap.size W0 w'
set_option maxRecDepth 100000 in
theorem start_calls (sts : List Gim.St) (qa : Option Addr) (qn qc : Nat) (w : World) (hF : FitTS w sts qa qn qc) (hT : Laid w) (hok : okP sts = true) (hs : szP sts ≤ 1048576) (hw : wTL sts ≤ 1099511627775) :
  Calls Tryz.prog 11 #[.agg #[.slice qa qn qc]] w (StP sts w) := by
 have hg : gdTL sts = true := by
  have h := hok
  unfold okP gdP at h
  simp only [jb] at h
  exact h.1.2
 obtain ⟨W1, hW1⟩ := je ((w.alloc (.cells #[.slice qa qn qc] 25)).alloc (.cells #[.int .i64 0, .slice none 0 0, .slice none 0 0] 36))
 have b0 : Below w.heap.size w W1 := by rw [← hW1]; exact ((jf _ _).alloc (jr _) _).alloc (by simp) _
 have x0 : W1.heap[w.heap.size]? = some (.cells #[.slice qa qn qc] 25) := by rw [← hW1]; exact (heap_alloc_old _ _ (by simp)).trans (jw _ _)
 have x1 : W1.heap[w.heap.size + 1]? = some (.cells #[.int .i64 0, .slice none 0 0, .slice none 0 0] 36) := by
  rw [← hW1]
  have := jw (w.alloc (.cells #[.slice qa qn qc] 25)) (.cells #[.int .i64 0, .slice none 0 0, .slice none 0 0] 36)
  rw [World.size_alloc] at this
  exact this
 have c0 := jc x0 0 rfl
 have hX1s : w.heap.size + 1 < W1.heap.size := jl x1
 have hX0s : w.heap.size < W1.heap.size := by omega
 have HX1 := jh x1
 have HB := jh b0
 have HOK := jh hok
 have HG := jh hg
 have HS := jh hs
 have HSW := jh hw
 have HW1 := jh hW1
 have HT1 := jh (hT.below b0)
 have HCP := jh (comp_calls sts qa qn qc W1 (hF.below b0) (hT.below b0) (by omega) hs)
 obtain ⟨nr, hnr⟩ := je ((comp sts).rows.length)
 obtain ⟨np, hnp⟩ := je ((comp sts).preds.length)
 obtain ⟨mn, hmn⟩ := je (((sts.length : Nat) : Int) : Int)
 clear hF hT b0 x0 x1 hok hW1 hg hs hw
 go_enter Tryz.func11, Tryz.ntmps11
 go_upto_region 1 with fail
 rw [HW1.out]
 go_wp2_with fail
 refine HCP.out.mono ?_
 rintro e w6 ⟨hb6, h6⟩
 rw [if_pos HOK.out] at h6
 obtain ⟨vr, vp, rfl, hN⟩ := h6
 obtain ⟨ra, rc, pa, pc, rfl, rfl, hR, hP⟩ := hN w6 fun _ _ _ => rfl
 rw [hnr] at hR
 rw [hnp] at hP
 rw [hnr, hnp, hmn]
 have hRle := hP.le
 have hRcl := hP.cap_le
 have hsum := (nlim_comp HS.out HSW.out).sum
 have hnpb : np ≤ 1048576 := by omega
 have HB6 := jh (HB.out.trans (hb6.mono HB.out.size))
 have HX6 : Hid (w6.heap[w.heap.size + 1]? = some (.cells #[.int .i64 0, .slice none 0 0, .slice none 0 0] 36)) := jh ((hb6.block _ hX1s).trans HX1.out)
 have hNB : Below w6.heap.size w6 (w6.alloc (.cells #[.int .i64 mn, .slice ra nr rc, .slice pa np pc] 36)) := (jf _ _).alloc (jr _) _
 obtain ⟨w7, hw7⟩ := je (w6.alloc (.cells #[.int .i64 mn, .slice ra nr rc, .slice pa np pc] 36))
 have hX7 : w7.heap[w6.heap.size]? = some (.cells #[.int .i64 mn, .slice ra nr rc, .slice pa np pc] 36) := by rw [← hw7]; exact jw _ _
 rw [hw7] at hNB
 have hR7 := hR.below hNB
 have hP7 := hP.below hNB
 have hB7 := HB6.out.trans (hNB.mono HB6.out.size)
 have HB7 := jh hB7
 have HT7 := jh (HT1.out.below (hb6.trans (hNB.mono hb6.size)))
 have HXP : Hid (XPk (comp sts) mn ra nr rc pa np pc 0) := jh (xexpr_calls mn ra nr rc pa np pc (comp_dag HG.out) (nlim_comp HS.out HSW.out) _ 0 (jr _))
 have HR7 := jh hR7
 have HP7 := jh hP7
 have HX7 := jh hX7
 have hN7 : w6.heap.size < w7.heap.size := jl hX7
 obtain ⟨N7', hN7'⟩ := je (w6.heap.size)
 have HX17 : Hid (w.heap.size + 1 < N7') := jh (by rw [← hN7']; exact jt hX1s hb6.size)
 have HX16 : Hid (w7.heap[w.heap.size + 1]? = some (.cells #[.int .i64 0, .slice none 0 0, .slice none 0 0] 36)) := jh ((hNB.block _ (by rw [hN7']; exact HX17.out)).trans HX6.out)
 rw [hN7'] at HX7 hN7
 have HW7 := jh hw7
 have HNR := jh hnr
 have HNP := jh hnp
 have HMN := jh hmn
 clear hNB hX7 hR hP hN hb6 hnr hnp hmn hw7 hR7 hP7 hB7 hRle hRcl hsum
 go_upto_region 2 with fail
 rw [HW7.out]
 clear hN7'
 go_wp2_with fail
 go_loopw [8, 9] (fun v8 v9 wr => ∃ (q : Nat) (cs : List N7), v9 = .int .i64 q ∧ q ≤ np ∧ XT MX cell7 7 w7 ((List.range q).map (xN (comp sts))) 66 q v8 cs wr) (fun _ v9 _ => np - (intOf v9).toNat)
 case atStart => exact ⟨0, [], rfl, jz _, XT.start⟩
 case round =>
  obtain ⟨q, cs, rfl, hq, hx⟩ := hrel
  obtain ⟨av, cv, rfl, _⟩ := own_slice hx.row
  have hbn := (hx.bel.block _ hN7).trans HX7.out
  have z0 := jc hbn 0 rfl; have z1 := jc hbn 1 rfl; have z2 := jc hbn 2 rfl
  have hNr : N7' < wr.heap.size := jt hN7 hx.bel.size
  by_cases hqn : q < np
  ·have hqn' : (q : Int) < np := by omega
   have HC := jh (HXP.out q wr (jz _) (by rw [HNP.out]; exact hqn) (HR7.out.below hx.bel) (HP7.out.below hx.bel))
   have f9 : IntKind.i64.wrap ((q : Int) + 1) = (q : Int) + 1 := IntWalk.i64_in _ (by omega)
   have hcl : q < 1099511627776 := by omega
   have HX := jh hx
   clear hx hbn
   go_wp2_with fail
   refine HC.out.mono ?_
   rintro e w2 ⟨op2, e1, e2, e3, e4, e5, e6, nm2, cmp2, txt2, num2, rfl, hrob, hb2⟩
   have hrow : w2.ownsRow w7.heap.size 66 7 (.slice av q cv) q (cs.flatMap cell7) := ownsRow_same HX.out.row fun g hg => hb2.block g (World.ownsRow.lt HX.out.row g hg).2
   have hbl : w7.heap.size ≤ w2.heap.size := ju HX.out.bel.size hb2.size
   have HROB := jh hrob
   have HB2 := jh hb2
   have HKQ : Hid ((List.range (q + 1)).map (xN (comp sts)) = (List.range q).map (xN (comp sts)) ++ [xN (comp sts) q]) := jh (by rw [List.range_succ, List.map_append]; rfl)
   clear hrob hb2 z0 z1 z2
   go_wp2_with (at_builtin; refine appendK w2 rfl _ _ 37 66 rfl _ 7 104 info_expr Tryz.underlying37 (by rfl) (by decide) (by decide) w7.heap.size (.slice av q cv) q (cs.flatMap cell7) rfl hrow (cell7 ⟨op2, e1, e2, e3, e4, e5, e6, nm2, cmp2, txt2, num2⟩) (by rfl) (cell7_one _) rfl hcl hbl ?_; intro v3 w3 own3 grow3 at3; obtain ⟨a3, c3, rfl, _⟩ := own_slice own3; have hat : (Value.slice a3 (q + 1) c3).ownBlock = (Value.slice av q cv).ownBlock ∨ ∃ j, (Value.slice a3 (q + 1) c3).ownBlock = some j ∧ w2.heap.size ≤ j := at3.elim .inl fun e => .inr ⟨_, e, Nat.le_succ _⟩; have HG3 := jh grow3; have HAT3 := jh hat; have HOW3 := jh own3; clear own3 grow3 at3 hat)
   go_roundw
   case rel => exact ⟨q + 1, _, by go_num, by omega, by rw [HKQ.out]; exact HX.out.next HB2.out HROB.out HOW3.out HG3.out HAT3.out⟩
   case measure => simp [intOf]; omega
  ·obtain rfl : q = np := by omega
   obtain ⟨a', c', e', hRX⟩ := rob_XS (xs := (List.range q).map (xN (comp sts))) hx.len (by rw [List.length_map, List.length_range]; exact hx.row) hx.els
   rw [List.length_map, List.length_range] at e' hRX
   injection e' with g1 g2 g3
   subst g1 g3
   have HRX := jh hRX
   have hST : Hid (Calls Tryz.prog 15 #[.agg #[.int .i64 mn, .slice ra nr rc, .slice pa q pc]] wr fun e w' => Below wr.heap.size wr w' ∧ NetOk (comp sts) ∧ ∃ H tg, e = .returned (.tuple #[.pointer (some ⟨H, 0, none⟩), .int .i64 0]) ∧ HoX wr.heap.size w' tg H (comp sts) [openF (comp sts) 0 ByteArray.empty []] ck0 none) := by
    have := start_hopes sts wr HOK.out HS.out HSW.out (HT7.out.below hx.bel) ra rc pa pc (by rw [HNR.out]; exact HR7.out.below hx.bel) (by rw [HNP.out]; exact HP7.out.below hx.bel)
    rw [HNR.out, HNP.out, show (comp sts).main = mn from HMN.out] at this
    exact jh this
   have HBX := jh (hx.bel.block _ (Nat.lt_trans HX17.out hN7))
   have HX := jh hx.bel
   clear hx hRX hbn
   go_wp2_with fail
   refine hST.out.mono ?_
   rintro e w8 ⟨hb8, hok, H, tg, rfl, hX⟩
   have hbn8 := (hb8.block N7' hNr).trans ((HX.out.block _ hN7).trans HX7.out)
   have hbx8 := (hb8.block (w.heap.size + 1) (by have := HX17.out; omega)).trans (HBX.out.trans HX16.out)
   have z0 := jc hbn8 0 rfl; have z1 := jc hbn8 1 rfl; have z2 := jc hbn8 2 rfl
   have y0 := jc hbx8 0 rfl; have y1 := jc hbx8 1 rfl; have y2 := jc hbx8 2 rfl
   have zy : ∀ i, w8.frozen? ⟨w.heap.size + 1, i, none⟩ = false := fun i => by simp [World.frozen?, hbx8]
   have hX18 : w.heap.size + 1 < w8.heap.size := jl hbx8
   have hN78 : N7' < w8.heap.size := jt hNr hb8.size
   have hne1 : N7' ≠ w.heap.size + 1 := by have := HX17.out; omega
   have HX8 := jh hX
   have HB8 := jh hb8
   have HOKN := jh hok
   have HFIN : Hid (∀ W', Below w8.heap.size w8 W' → StP sts w (.returned (.tuple #[.pointer (some ⟨H, 0, none⟩), .agg #[.int .i64 mn, .slice ra nr rc, .slice pa q pc], .slice av q cv, .bool true])) (((W'.setCell ⟨w.heap.size + 1, 0, none⟩ (.int .i64 mn)).setCell ⟨w.heap.size + 1, 1, none⟩ (.slice ra nr rc)).setCell ⟨w.heap.size + 1, 2, none⟩ (.slice pa q pc))) := jh fun W' hW => by
    have hsx := HX17.out
    have hs7 := HX.out.size
    have hbw := HB8.out.trans (hW.mono HB8.out.size)
    refine ⟨((wr.setCell ⟨w.heap.size + 1, 0, none⟩ (.int .i64 mn)).setCell ⟨w.heap.size + 1, 1, none⟩ (.slice ra nr rc)).setCell ⟨w.heap.size + 1, 2, none⟩ (.slice pa q pc), H, tgU (tgU tg w8.heap.size 6) W'.heap.size 6, ra, rc, pa, pc, av, cv, ?_, ?_, ?_, HOKN.out, ?_, ?_⟩
    ·rw [HNR.out, HNP.out, show (comp sts).main = mn from HMN.out]
    ·exact ((((HB7.out.trans (HX.out.mono HB7.out.size)).setCell (p := ⟨w.heap.size + 1, 0, none⟩) (Nat.le_succ _) _).setCell (p := ⟨w.heap.size + 1, 1, none⟩) (Nat.le_succ _) _).setCell (p := ⟨w.heap.size + 1, 2, none⟩) (Nat.le_succ _) _)
    ·rw [HNP.out]
     refine (HRX.out.moved (W2 := ((wr.setCell ⟨w.heap.size + 1, 0, none⟩ (.int .i64 mn)).setCell ⟨w.heap.size + 1, 1, none⟩ (.slice ra nr rc)).setCell ⟨w.heap.size + 1, 2, none⟩ (.slice pa q pc)) (own2 := none) (by simp only [jv]; exact jr _) (fun b h1 _ _ => ?_) (.inl rfl)).here
     rw [js _ _ _ b (by show b ≠ w.heap.size + 1; omega), js _ _ _ b (by show b ≠ w.heap.size + 1; omega), js _ _ _ b (by show b ≠ w.heap.size + 1; omega)]
    ·have hsz : (((wr.setCell ⟨w.heap.size + 1, 0, none⟩ (.int .i64 mn)).setCell ⟨w.heap.size + 1, 1, none⟩ (.slice ra nr rc)).setCell ⟨w.heap.size + 1, 2, none⟩ (.slice pa q pc)).heap.size = wr.heap.size := by simp only [jv]
     rw [hsz]
     have h1 := HX8.out.below hW
     refine h1.off (p := fun b => b = w.heap.size + 1) ((((Fr.refl (fun b => b = w.heap.size + 1) W').set (w.heap.size + 1) 0 _ rfl).set (w.heap.size + 1) 1 _ rfl).set (w.heap.size + 1) 2 _ rfl) fun b _ hp => ?_
     rw [hp]
     exact h1.low.2 _ (by omega)
    ·have hsz : (((wr.setCell ⟨w.heap.size + 1, 0, none⟩ (.int .i64 mn)).setCell ⟨w.heap.size + 1, 1, none⟩ (.slice ra nr rc)).setCell ⟨w.heap.size + 1, 2, none⟩ (.slice pa q pc)).heap.size = wr.heap.size := by simp only [jv]
     rw [hsz]
     exact below_set2 (below_set2 (below_set2 hbw _ _) _ _) _ _
   clear hb8 hok hX hbn8 hbx8
   go_upto_region 10 with fail
   go_region
   all_goals
    go_wp2_with fail
    refine bodyPost_ret (v := .tuple #[.pointer (some ⟨H, 0, none⟩), .agg #[.int .i64 mn, .slice ra nr rc, .slice pa q pc], .slice av q cv, .bool true]) ?_ rfl ?_
    ·simp [results, Tryz.f11, go_sem, y0, y1, y2]
    ·first | exact HFIN.out w8 (jf _ _) | exact HFIN.out w8.drew ((jf _ _).drew)
end Go.Proofs.YtkhejkfjhddobaaGreatDoor
