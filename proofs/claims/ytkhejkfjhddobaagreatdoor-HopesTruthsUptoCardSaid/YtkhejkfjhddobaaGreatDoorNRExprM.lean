/- (*reader).expr of gimlet/net. -/
import Derived.Test.YtkhejkfjhddobaaGreatDoorQTreeM
set_option maxHeartbeats 8000000
namespace Go.Proofs.YtkhejkfjhddobaaGreatDoor
open Go.RowKit Gim
theorem readExpr_good (C : RC) (ok : C.Ok) (f : Nat) (ihx : CRX C f) (ihp : CRP C f) (s : Rst) (j : Nat) (V : World) (h : RdW C V s) (hb : s.bad = false) (hj : j < C.n.preds.length) (hu : s.preds[j]? = some false) (hf : unused s < f + 1) :
  Calls Tryz.prog 93 #[.pointer (some ⟨C.R, 0, none⟩), .int .i64 j] V (XPost C V ((RR C.n (f + 1)).1 j s)) := by
 have c5 := h.c5
 rw [hb] at c5
 have c2 := h.c2
 have c4 := h.c4
 have z5 := h.zR 5
 have hlt := jt ok.hi.1 h.top
 have hlt2 := jt ok.hi.2.2 h.top
 have hn0 := ok.preds.le
 have hn1 := ok.preds.cap_le
 have hmx : C.n.preds.length ≤ 9223372036854775807 := by unfold maxLen at hn1; omega
 obtain ⟨b, o, op, args, first, count, attr, cmp, txt, num, p, m, c, hpa, hbW, hp, p0, p1, p2, p3, p4, p5, p6, p7, hrd⟩ := h.pred ok hj
 have hEq := jh (show (RR C.n (f + 1)).1 j s = _ from exprF_good (n := C.n) (rx := (RR C.n f).1) (rp := (RR C.n f).2) hb hj hu hp)
 have hma := ok.lx j
 rw [hp] at hma
 have hma : args.length ≤ 1048576 := hma
 have hlw := ok.lw j
 rw [hp] at hlw
 have HLW : Hid (InR first ∧ InR count) := jh hlw
 have hga := ok.ga j hj
 have hgc := ok.gc.1
 obtain ⟨np, hnp⟩ := je (C.n.preds.length)
 rw [hnp] at c2 c4 hmx hj hgc hn0
 rw [hga] at c4
 rw [hpa] at c2
 have k4 := h.fp j false hu
 have zk := h.zP j
 have hbs : b < V.heap.size := lt_of_cell p0
 have hl3 := ok.lo
 have hbp : b ≠ C.PB := by omega
 have hbq : C.PB ≠ b := by omega
 have hq1 : C.R ≠ C.PB := ok.ne.2.1
 have hq2 : C.PB ≠ C.R := ok.ne.2.1.symm
 have hjc : j < C.pc := by omega
 have hjg : j < C.gc := by omega
 have HVT := jh h.top
 have hun := unused_markPred hu
 have hrd1 := h.markPred ok hu
 obtain ⟨W1, hW1⟩ := je ((((V.setCell ⟨C.PB, j, none⟩ (.bool true)).alloc (.cells #[.int .i64 0, .slice none 0 0, .slice none 0 0, .string { data := #[] }, .int .i64 0, .string { data := #[] }, .int .i64 0] 66)).alloc (.cells #[.int .i64 op, .slice p m c, .int .i64 first, .int .i64 count, .string attr, .int .i64 cmp, .string txt, .int .i64 num] 59)).alloc (.cells #[.int .i64 op, .slice none 0 0, .slice none 0 0, .string attr, .int .i64 cmp, .string txt, .int .i64 num] 66))
 have hsz1 : W1.heap.size = V.heap.size + 3 := by rw [← hW1]; simp
 have hB1 : Below V.heap.size (V.setCell ⟨C.PB, j, none⟩ (.bool true)) W1 := by
  rw [← hW1]
  exact (((jf _ _).alloc (by rw [jv]; exact jr _) _).alloc (by simp) _).alloc (by simp; omega) _
 have HR1 := jh (hrd1.below ok (hB1.mono h.top))
 have HO1 : Hid (Only C V W1) := jh (((Only.refl C V).set hl3.2.2 ok.hi.2.2 _).step hB1 (by have := h.bel.size; exact this))
 have hx1 : W1.heap[V.heap.size + 2]? = some (.cells #[.int .i64 op, .slice none 0 0, .slice none 0 0, .string attr, .int .i64 cmp, .string txt, .int .i64 num] 66) := by
  rw [← hW1]
  have := jw (((V.setCell ⟨C.PB, j, none⟩ (.bool true)).alloc (.cells #[.int .i64 0, .slice none 0 0, .slice none 0 0, .string { data := #[] }, .int .i64 0, .string { data := #[] }, .int .i64 0] 66)).alloc (.cells #[.int .i64 op, .slice p m c, .int .i64 first, .int .i64 count, .string attr, .int .i64 cmp, .string txt, .int .i64 num] 59)) (.cells #[.int .i64 op, .slice none 0 0, .slice none 0 0, .string attr, .int .i64 cmp, .string txt, .int .i64 num] 66)
  rw [World.size_alloc, World.size_alloc, jv] at this
  exact this
 have hp1 : W1.heap[V.heap.size + 1]? = some (.cells #[.int .i64 op, .slice p m c, .int .i64 first, .int .i64 count, .string attr, .int .i64 cmp, .string txt, .int .i64 num] 59) := by
  rw [← hW1]
  refine (heap_alloc_old _ _ (by simp)).trans ?_
  have := jw ((V.setCell ⟨C.PB, j, none⟩ (.bool true)).alloc (.cells #[.int .i64 0, .slice none 0 0, .slice none 0 0, .string { data := #[] }, .int .i64 0, .string { data := #[] }, .int .i64 0] 66)) (.cells #[.int .i64 op, .slice p m c, .int .i64 first, .int .i64 count, .string attr, .int .i64 cmp, .string txt, .int .i64 num] 59)
  rw [World.size_alloc, jv] at this
  exact this
 have hr1 : W1.heap[V.heap.size]? = some (.cells #[.int .i64 0, .slice none 0 0, .slice none 0 0, .string { data := #[] }, .int .i64 0, .string { data := #[] }, .int .i64 0] 66) := by
  rw [← hW1]
  refine (heap_alloc_old _ _ (by simp; omega)).trans ((heap_alloc_old _ _ (by simp)).trans ?_)
  have := jw (V.setCell ⟨C.PB, j, none⟩ (.bool true)) (.cells #[.int .i64 0, .slice none 0 0, .slice none 0 0, .string { data := #[] }, .int .i64 0, .string { data := #[] }, .int .i64 0] 66)
  rw [jv] at this
  exact this
 have HST : Hid (XL C V W1 (RR C.n f).1 args (s.markPred j) 66 (V.heap.size + 3) (V.heap.size + 2) 66 (fun v => #[.int .i64 op, v, .slice none 0 0, .string attr, .int .i64 cmp, .string txt, .int .i64 num]) 0 (.slice none 0 0) [] W1) :=
  jh (XL.start HR1.out HO1.out hsz1.symm hx1)
 obtain ⟨H0, hH0⟩ : ∃ H0, Hid (H0 = V.heap.size) := ⟨_, jh rfl⟩
 have HP1 := jh hp1
 have HRR1 := jh hr1
 have HF : Hid (∀ q, unused (foldX (RR C.n f).1 (args.take q) (s.markPred j)).2 < f) := jh fun q => by
  have := (foldX_fewer (RR_fewer C.n f).1 (args.take q) ([], s.markPred j)).1
  unfold foldX
  simp only at this
  omega
 have HIX := jh ihx
 have HIP := jh ihp
 have HRD := jh hrd
 have hml := hrd.len
 have hmc := hrd.le
 have hmc2 := hrd.cap_le
 have HLN := jh hml
 have HQM := jh (show m ≤ 1048576 by omega)
 have hmm : m ≤ 9223372036854775807 := by unfold maxLen at hmc2; omega
 have HR := jh h
 have HO := jh ok
 have HHW := jh hW1
 clear h ok hma hlw hn0 hn1 hga hpa hl3 hun hrd1 hB1 hx1 hp1 hr1 ihx ihp hrd hml hmc hmc2 hf hp hsz1 hW1
 go_enter Tryz.func93, Tryz.ntmps93
 go_wp2_with fail
 rw [HHW.out]
 clear c2 c4 c5 z5 p0 p1 p2 p3 p4 p5 p6 p7 k4 zk
 go_loopw [68] (fun i wr => ∃ (q : Nat) (v : Value) (cs : List N7), i = .int .i64 q ∧ q ≤ m ∧ XL C V W1 (RR C.n f).1 args (s.markPred j) 66 (V.heap.size + 3) (V.heap.size + 2) 66 (fun v => #[.int .i64 op, v, .slice none 0 0, .string attr, .int .i64 cmp, .string txt, .int .i64 num]) q v cs wr) (fun i _ => m - (intOf i).toNat)
 case atStart => exact ⟨0, _, _, rfl, jz _, HST.out⟩
 case round =>
  obtain ⟨q, v, cs, rfl, hq, hx⟩ := hrel
  by_cases hqm : q < m
  ·have hqm' : (q : Int) < m := by omega
   obtain ⟨ba, oa, rfl, hba, hc⟩ := (HRD.out.below hx.rd.bel).cell q hqm
   have k1 := hc q hqm
   have hk := get_gt (xs := args) (q := q) (by have := HLN.out; omega)
   obtain ⟨k, hkk⟩ := je (gt args q)
   rw [hkk] at k1 hk
   obtain ⟨r, hr⟩ := je ((RR C.n f).1 k (foldX (RR C.n f).1 (args.take q) (s.markPred j)).2)
   have HX : Hid (∀ V' : World, RdW C V' (foldX (RR C.n f).1 (args.take q) (s.markPred j)).2 → Calls Tryz.prog 93 #[.pointer (some ⟨C.R, 0, none⟩), .int .i64 k] V' (XPost C V' r)) := jh fun V' hV => by
    have := HIX.out _ k V' hV (.inl (HF.out q))
    rw [hr] at this
    exact this
   have HK := jh hk
   have HRE := jh hr
   have HXL := jh hx
   have hxb := hx.hx
   have hx0 := jc hxb 1 rfl
   have hxs : V.heap.size + 2 < wr.heap.size := jl hxb
   clear hc hkk hk hr hx hxb
   have hzf : wr.frozen? ⟨V.heap.size + 2, 1, none⟩ = false := by simp [World.frozen?, HXL.out.hx]
   have HTG : Hid (∀ g, v.ownBlock = some g → C.top ≤ g) := jh fun g hg => by
    have := (World.ownsRow.lt HXL.out.row g hg).1
    have := HVT.out
    omega
   have HOWN : Hid (some (V.heap.size + 2) ≠ v.ownBlock) := jh fun e => by
    have := (World.ownsRow.lt HXL.out.row _ e.symm).1
    omega
   have HQ4 : Hid (q < 1099511627776) := jh (by have := HQM.out; omega)
   have HVL := jh (show C.top ≤ V.heap.size + 2 by have := HVT.out; omega)
   go_upto_region 10 with fail
   go_region_law (first
    | (go_simp; go_at_call 93; refine (HX.out _ (by first | exact HXL.out.rd | exact HXL.out.rd.below HO.out (jf _ _).drew)).mono ?_; rintro e w2 ⟨op2, e1, e2, e3, e4, e5, e6, nm2, cmp2, txt2, num2, rfl, hrob, hrd2, honly⟩; have ho2 : Only C wr w2 := ⟨honly.os, honly.tape, honly.output, honly.size, honly.low, honly.high⟩; have hrob2 : Rob wr.heap.size w2 none (fun W' => MX W' r.1 ⟨op2, e1, e2, e3, e4, e5, e6, nm2, cmp2, txt2, num2⟩) := hrob; have hxb2 := (ho2.high _ HVL.out hxs).trans HXL.out.hx; have hx2 : w2.cell? ⟨V.heap.size + 2, 1, none⟩ = some v := (by simp [World.cell?, hxb2]); have hzf2 : w2.frozen? ⟨V.heap.size + 2, 1, none⟩ = false := (by simp [World.frozen?, hxb2]); have hxs2 : V.heap.size + 2 < w2.heap.size := jt hxs ho2.size; have HROB := jh hrob2; have HRD2 := jh hrd2; have HO2 := jh ho2; have HXB2 := jh hxb2; have HLT2 : Hid (w2.heap.size < (w2.alloc (.cells #[.int .i64 op2, .slice e1 e2 e3, .slice e4 e5 e6, .string nm2, .int .i64 cmp2, .string txt2, .int .i64 num2] 66)).heap.size) := jh (by rw [World.size_alloc]; exact Nat.lt_succ_self _); have HROW2 : Hid ((w2.alloc (.cells #[.int .i64 op2, .slice e1 e2 e3, .slice e4 e5 e6, .string nm2, .int .i64 cmp2, .string txt2, .int .i64 num2] 66)).ownsRow (V.heap.size + 3) 66 7 v q (cs.flatMap cell7)) := jh (World.ownsRow.alloc (ownsRow_same HXL.out.row fun g hg => ho2.high g (HTG.out g hg) (World.ownsRow.lt HXL.out.row g hg).2) _); have HNEW2 : Hid (∀ j u, (cell7 ⟨op2, e1, e2, e3, e4, e5, e6, nm2, cmp2, txt2, num2⟩)[j]? = some u → (w2.alloc (.cells #[.int .i64 op2, .slice e1 e2 e3, .slice e4 e5 e6, .string nm2, .int .i64 cmp2, .string txt2, .int .i64 num2] 66)).cell? ⟨w2.heap.size, j, none⟩ = some u) := jh (cell7_new w2 ⟨op2, e1, e2, e3, e4, e5, e6, nm2, cmp2, txt2, num2⟩ 66); clear hrob hrob2 hrd2 honly ho2 hxb2)
    | (refine step_appK _ (by rfl) (.tmp 73) (.tmp 77) 37 66 (by rfl) _ 7 104 info_expr Tryz.underlying37 (by rfl) (by decide) (by decide) (V.heap.size + 3) v q (cs.flatMap cell7) (by rfl) HROW2.out (cell7 ⟨op2, e1, e2, e3, e4, e5, e6, nm2, cmp2, txt2, num2⟩) (by rfl) (cell7_one _) w2.heap.size (by rfl) HNEW2.out HQ4.out (ju HXL.out.size (ju HO2.out.size (Nat.le_of_lt HLT2.out))) ?_; intro v3 w3 own3 grow3 at3; obtain ⟨av, cv, rfl, _⟩ := own_slice own3; have hgr : w2.grownBy w3 v.ownBlock := ⟨grow3.os, grow3.tape, grow3.output, ju (Nat.le_of_lt HLT2.out) grow3.size, fun b hb hne => (grow3.block b (Nat.lt_trans hb HLT2.out) hne).trans (heap_alloc_old w2 _ hb)⟩; have hat : (Value.slice av (q + 1) cv).ownBlock = v.ownBlock ∨ ∃ j, (Value.slice av (q + 1) cv).ownBlock = some j ∧ w2.heap.size ≤ j := at3.elim .inl fun e => .inr ⟨_, e, Nat.le_of_lt HLT2.out⟩; have hxb3 := (hgr.block _ hxs2 HOWN.out).trans HXB2.out; have hx3 : w3.cell? ⟨V.heap.size + 2, 1, none⟩ = some v := (by simp [World.cell?, hxb3]); have hzf3 : w3.frozen? ⟨V.heap.size + 2, 1, none⟩ = false := (by simp [World.frozen?, hxb3]); have hxs3 : V.heap.size + 2 < w3.heap.size := jt hxs2 hgr.size; have HG3 := jh hgr; have HAT3 := jh hat; have HOW3 := jh own3; clear own3 grow3 at3 hgr hat hxb3))
   all_goals
    go_wp2_with fail
    go_roundw
    case rel => exact ⟨q + 1, _, _, by go_num, by omega, HXL.out.next HO.out (Nat.le_add_right _ _) HVT.out ⟨Nat.le_add_right _ _, Nat.lt_succ_self _⟩ 1 (fun _ _ => rfl) HK.out HRE.out HO2.out HROB.out HRD2.out HOW3.out HG3.out HAT3.out⟩
    case measure => simp [intOf]; omega
  ·obtain rfl : q = m := by omega
   have HXL := jh hx
   have hb1 : wr.heap[V.heap.size + 1]? = _ := (hx.fix (V.heap.size + 1) (by have := HVT.out; omega) (by omega) (by omega)).trans HP1.out
   have hb0 : wr.heap[V.heap.size]? = _ := (hx.fix V.heap.size HVT.out (by omega) (by omega)).trans HRR1.out
   have hb2 := hx.hx
   have HB1 := jh hb1
   have HB0 := jh hb0
   have HB2 := jh hb2
   have d0 := jc hb1 0 rfl; have d2 := jc hb1 2 rfl; have d3 := jc hb1 3 rfl
   have hTQ := jh (show (foldX (RR C.n f).1 (args.take q) (s.markPred j)).2 = (foldX (RR C.n f).1 args (s.markPred j)).2 by rw [jm (by rw [HLN.out]; exact jr _)])
   obtain ⟨sq, hsq⟩ := je ((foldX (RR C.n f).1 args (s.markPred j)).2)
   obtain ⟨r, hr⟩ := je ((RR C.n f).2 first count sq)
   have hrq := hx.rd
   rw [hTQ.out, hsq] at hrq
   have HRQ := jh hrq
   have HSQ := jh hsq
   have HRE := jh hr
   have hfq := HF.out q
   rw [hTQ.out, hsq] at hfq
   have HY : Hid (∀ V' : World, RdW C V' sq → Calls Tryz.prog 61 #[.pointer (some ⟨C.R, 0, none⟩), .int .i64 first, .int .i64 count] V' (TPost C V' r)) := jh fun V' hV => by
    have := HIP.out sq first count V' HLW.out.1 HLW.out.2 hV (.inl hfq)
    rw [hr] at this
    exact this
   obtain ⟨av, cv, rfl, _⟩ := own_slice hx.row
   have e0 := jc hb2 0 rfl; have e1 := jc hb2 1 rfl; have e2 := jc hb2 2 rfl; have e3 := jc hb2 3 rfl; have e4 := jc hb2 4 rfl; have e5 := jc hb2 5 rfl; have e6 := jc hb2 6 rfl
   have hs2 : V.heap.size + 2 < wr.heap.size := jl hb2
   clear hx hb1 hb0 hb2 hsq hr hrq hfq
   by_cases h3 : op = 3
   ·subst h3
    go_wp2_with fail
    refine (HY.out _ HRQ.out).mono ?_
    rintro e w2 ⟨a2, n2, c2, rfl, hrob, hrd2, ho2⟩
    have hq0 := (ho2.high _ HVT.out (by omega)).trans HB0.out
    have hq2 := (ho2.high _ (show C.top ≤ V.heap.size + 2 by have := HVT.out; omega) hs2).trans HB2.out
    have HROB := jh hrob; have HRD2 := jh hrd2; have HO2 := jh ho2
    have e0 := jc hq2 0 rfl; have e1 := jc hq2 1 rfl; have e2 := jc hq2 2 rfl; have e3 := jc hq2 3 rfl; have e4 := jc hq2 4 rfl; have e5 := jc hq2 5 rfl; have e6 := jc hq2 6 rfl
    have zx2 : ∀ i, w2.frozen? ⟨V.heap.size + 2, i, none⟩ = false := fun i => by simp [World.frozen?, hq2]
    have y0 := jc hq0 0 rfl; have y1 := jc hq0 1 rfl; have y2 := jc hq0 2 rfl; have y3 := jc hq0 3 rfl; have y4 := jc hq0 4 rfl; have y5 := jc hq0 5 rfl; have y6 := jc hq0 6 rfl
    have zy2 : ∀ i, w2.frozen? ⟨V.heap.size, i, none⟩ = false := fun i => by simp [World.frozen?, hq0]
    clear hrob hrd2 ho2 hq0 hq2
    go_wp2_with fail
    refine bodyPost_ret (v := .agg #[.int .i64 3, .slice av q cv, .slice a2 n2 c2, .string attr, .int .i64 cmp, .string txt, .int .i64 num]) ?_ rfl ?_
    ·simp [results, Tryz.f93, go_sem, y0, y1, y2, y3, y4, y5, y6]
    ·rw [hEq.out]
     first | rw [if_pos rfl] | rw [if_pos trivial]
     rw [HSQ.out, HRE.out]
     have hc := chain7 (w2.setCell ⟨V.heap.size + 2, 2, none⟩ (.slice a2 n2 c2)) V.heap.size (.int .i64 3) (.slice av q cv) (.slice a2 n2 c2) (.string attr) (.int .i64 cmp) (.string txt) (.int .i64 num)
     have hbw := ((jf V.heap.size w2).setCell (p := ⟨V.heap.size + 2, 2, none⟩) (Nat.le_add_right _ _) (.slice a2 n2 c2)).trans (hc.below (jr _))
     refine xpost_end HXL.out HLN.out (Nat.le_add_right _ _) (by have := HVT.out; omega) HO2.out HROB.out (by rw [← hc.size, jv]; exact jr _) (fun b h1 h2 => (hc.block b (by omega)).trans (js _ _ _ b (by show b ≠ V.heap.size + 2; omega))) (HRD2.out.below HO.out (hbw.mono HVT.out)) ((HXL.out.only.trans HO2.out).step hbw (by have := HO.out.lo; have := HO.out.hi; have := HVT.out; omega)) 3 attr cmp txt num
   ·have hq0 := HB0.out
    have hq2 := HB2.out
    have zx2 : ∀ i, wr.frozen? ⟨V.heap.size + 2, i, none⟩ = false := fun i => by simp [World.frozen?, hq2]
    have y0 := jc hq0 0 rfl; have y1 := jc hq0 1 rfl; have y2 := jc hq0 2 rfl; have y3 := jc hq0 3 rfl; have y4 := jc hq0 4 rfl; have y5 := jc hq0 5 rfl; have y6 := jc hq0 6 rfl
    have zy2 : ∀ i, wr.frozen? ⟨V.heap.size, i, none⟩ = false := fun i => by simp [World.frozen?, hq0]
    have h3' : (op == 3) = false := by simpa using h3
    have H3 := jh h3
    have c5 := HRQ.out.c5
    have z5 := HRQ.out.zR 5
    have hs5 : C.R < wr.heap.size := by omega
    have n1 : C.R ≠ V.heap.size := by omega
    have n2 : C.R ≠ V.heap.size + 2 := by omega
    have n3 : V.heap.size ≠ C.R := by omega
    have n4 : V.heap.size + 2 ≠ C.R := by omega
    have HW0 : Hid (C.W0.heap.size ≤ V.heap.size) := jh (by have := HO.out.lo; have := HO.out.hi; have := HVT.out; omega)
    have HN1 := jh n1
    clear hq0 hq2 h3
    by_cases hfc : first = 0 ∧ count = 0
    ·obtain ⟨rfl, rfl⟩ := hfc
     go_wp2_with fail
     refine bodyPost_ret (v := .agg #[.int .i64 op, .slice av q cv, .slice none 0 0, .string attr, .int .i64 cmp, .string txt, .int .i64 num]) ?_ rfl ?_
     ·simp [results, Tryz.f93, go_sem, y0, y1, y2, y3, y4, y5, y6]
     ·rw [hEq.out, if_neg H3.out, HSQ.out, if_neg (by simp)]
      have hc := chain7 wr V.heap.size (.int .i64 op) (.slice av q cv) (.slice none 0 0) (.string attr) (.int .i64 cmp) (.string txt) (.int .i64 num)
      refine xpost_end HXL.out HLN.out (Nat.le_add_right _ _) (by have := HVT.out; omega) (Only.refl C wr) ⟨fun _ => False, fun _ h => h.elim, fun W _ => fitTS_nil W⟩ (Nat.le_of_eq hc.size) (fun b h1 h2 => hc.block b (by omega)) (HRQ.out.below HO.out (hc.below HVT.out)) (HXL.out.only.step (hc.below (jr _)) HW0.out) op attr cmp txt num
    ·have hfc2 : first ≠ 0 ∨ count ≠ 0 := by
      by_cases h0 : first = 0
      ·exact .inr fun h1 => hfc ⟨h0, h1⟩
      ·exact .inl h0
     have HFC := jh hfc2
     have hfin : XPost C V ((RR C.n (f + 1)).1 j s) (.returned (.agg #[.int .i64 op, .slice av q cv, .slice none 0 0, .string attr, .int .i64 cmp, .string txt, .int .i64 num])) ((((((((wr.setCell ⟨C.R, 5, none⟩ (.bool true)).setCell ⟨V.heap.size, 0, none⟩ (.int .i64 op)).setCell ⟨V.heap.size, 1, none⟩ (.slice av q cv)).setCell ⟨V.heap.size, 2, none⟩ (.slice none 0 0)).setCell ⟨V.heap.size, 3, none⟩ (.string attr)).setCell ⟨V.heap.size, 4, none⟩ (.int .i64 cmp)).setCell ⟨V.heap.size, 5, none⟩ (.string txt)).setCell ⟨V.heap.size, 6, none⟩ (.int .i64 num)) := by
      rw [hEq.out, if_neg H3.out, HSQ.out, if_pos hfc2]
      have hc := chain7 (wr.setCell ⟨C.R, 5, none⟩ (.bool true)) V.heap.size (.int .i64 op) (.slice av q cv) (.slice none 0 0) (.string attr) (.int .i64 cmp) (.string txt) (.int .i64 num)
      refine xpost_end HXL.out HLN.out (Nat.le_add_right _ _) (by have := HVT.out; omega) (Only.refl C wr) ⟨fun _ => False, fun _ h => h.elim, fun W _ => fitTS_nil W⟩ (by rw [← hc.size, jv]; exact jr _) (fun b h1 h2 => (hc.block b (by omega)).trans (js _ _ _ b (by show b ≠ C.R; omega))) ((HRQ.out.spoil HO.out).below HO.out (hc.below HVT.out)) ?_ op attr cmp txt num
      have ho := (HXL.out.only.set (p := ⟨C.R, 5, none⟩) HO.out.lo.1 HO.out.hi.1 (.bool true))
      exact ho.step (hc.below (jr _)) HW0.out
     have HFIN := jh hfin
     clear hfin hfc2
     by_cases h0 : first = 0
     ·subst h0
      have h1 : (count != 0) = true := by simpa using fun h => hfc ⟨rfl, h⟩
      clear hfc
      go_wp2_with fail
      refine bodyPost_ret (v := .agg #[.int .i64 op, .slice av q cv, .slice none 0 0, .string attr, .int .i64 cmp, .string txt, .int .i64 num]) ?_ rfl ?_
      ·simp [results, Tryz.f93, go_sem, y0, y1, y2, y3, y4, y5, y6]
      ·exact HFIN.out
     ·have h1 : (first != 0) = true := by simpa using h0
      clear hfc h0
      go_wp2_with fail
      refine bodyPost_ret (v := .agg #[.int .i64 op, .slice av q cv, .slice none 0 0, .string attr, .int .i64 cmp, .string txt, .int .i64 num]) ?_ rfl ?_
      ·simp [results, Tryz.f93, go_sem, y0, y1, y2, y3, y4, y5, y6]
      ·exact HFIN.out
theorem tpost_off {C : RC} (ok : C.Ok) {s : Rst} {V : World} (h : RdW C V s) (o1 o2 : Obj) : TPost C V ([], s.spoil) (.returned (.agg #[.slice none 0 0])) (((V.setCell ⟨C.R, 5, none⟩ (.bool true)).alloc o1).alloc o2) := by
 have ht := h.top
 have hb : Below V.heap.size (V.setCell ⟨C.R, 5, none⟩ (.bool true)) _ := ((jf _ _).alloc (by rw [jv]; exact jr _) o1).alloc (by simp) o2
 exact ⟨none, 0, 0, rfl, ⟨fun _ => False, fun _ h => h.elim, fun W _ => fitTS_nil W⟩, (h.spoil ok).below ok (hb.mono ht), ((Only.refl C V).set (p := ⟨C.R, 5, none⟩) ok.lo.1 ok.hi.1 _).step hb (by have := ok.lo.1; have := ok.hi.1; omega)⟩
theorem readPath_off (C : RC) (ok : C.Ok) (s : Rst) (a c : Int) (V : World) (h : RdW C V s) (ha : InR a) (hc : InR c) (hoff : a < 0 ∨ c < 1 ∨ (C.n.rows.length : Int) - c < a) :
  Calls Tryz.prog 61 #[.pointer (some ⟨C.R, 0, none⟩), .int .i64 a, .int .i64 c] V (TPost C V ([], s.spoil)) := by
 have c5 := h.c5
 have c1 := h.c1
 have z5 := h.zR 5
 have hlt := jt ok.hi.1 h.top
 have hn0 := ok.lz
 have HP := jh (@tpost_off C ok s V h)
 obtain ⟨nr, hnr⟩ := je (C.n.rows.length)
 rw [hnr] at c1 hoff hn0
 clear h ok hnr
 by_cases h0 : a < 0
 ·clear hoff
  go_enter Tryz.func61, Tryz.ntmps61
  go_wp2_with fail
  refine bodyPost_ret (v := .agg #[.slice none 0 0]) ?_ rfl (HP.out _ _)
  simp [results, Tryz.f61, go_sem]
 ·by_cases h1 : c < 1
  ·clear hoff
   go_enter Tryz.func61, Tryz.ntmps61
   go_wp2_with fail
   refine bodyPost_ret (v := .agg #[.slice none 0 0]) ?_ rfl (HP.out _ _)
   simp [results, Tryz.f61, go_sem]
  ·have h2 : (nr : Int) - c < a := by omega
   clear hoff
   obtain ⟨ha1, ha2⟩ := ha
   obtain ⟨hc1, hc2⟩ := hc
   go_enter Tryz.func61, Tryz.ntmps61
   go_wp2_with fail
   refine bodyPost_ret (v := .agg #[.slice none 0 0]) ?_ rfl (HP.out _ _)
   simp [results, Tryz.f61, go_sem]
set_option maxRecDepth 100000 in
theorem readPath_good (C : RC) (ok : C.Ok) (f : Nat) (ihx : CRX C f) (s : Rst) (F N : Nat) (V : World) (h : RdW C V s) (hN : 1 ≤ N) (hFN : F + N ≤ C.n.rows.length) (hf : unused s < f + 1 ∨ s.bad = true) :
  Calls Tryz.prog 61 #[.pointer (some ⟨C.R, 0, none⟩), .int .i64 F, .int .i64 N] V (TPost C V ((List.range' F N).foldl (rowF C.n (RR C.n f).1) ([], s))) := by
 have c1 := h.c1
 have hlt := jt ok.hi.1 h.top
 have hn0 := ok.lz
 have HVT := jh h.top
 have HST := jh (PL.start (rx := (RR C.n f).1) (F := F) (tS := 64) (tP := 25) ok h)
 have hrl := ok.rows.le
 have hfc := ok.fc.1
 have hfa := ok.fa F (by omega)
 obtain ⟨rb, ro, hra, hrb⟩ : ∃ rb ro, C.ra = some ⟨rb, ro, none⟩ ∧ rb < C.W0.heap.size := by
  obtain ⟨b, o, _, _, _, _, _, _, _, h1, h2, _⟩ := h.row ok (k := F) (by omega)
  exact ⟨b, o, h1, h2⟩
 have HF : Hid (∀ d, ((List.range' F d).foldl (rowF C.n (RR C.n f).1) ([], s)).2.bad = false → unused ((List.range' F d).foldl (rowF C.n (RR C.n f).1) ([], s)).2 < f + 1) := jh fun d hb => by
  have h1 := rows_fewer C.n (RR_fewer C.n f).1 (List.range' F d) ([], s)
  rcases hf with hf | hf
  ·exact Nat.lt_of_le_of_lt h1.1 hf
  ·rw [h1.2 hf] at hb
   cases hb
 obtain ⟨nr, hnr⟩ := je (C.n.rows.length)
 rw [hnr] at c1 hFN hn0 hrl hfc
 rw [hra] at c1
 have HRA := jh hra
 have HFA := jh hfa
 have HNR := jh hnr
 have HO := jh ok
 have HIX := jh ihx
 clear h ok ihx hf hra hfa hnr
 go_enter Tryz.func61, Tryz.ntmps61
 go_wp2_with fail
 clear c1
 go_loopw [8] (fun i wr => ∃ (d : Nat) (v : Value) (cs : List N4s), i = .int .i64 ((F + d : Nat) : Int) ∧ d ≤ N ∧ PL C V (RR C.n f).1 F s 64 25 d v cs wr) (fun i _ => F + N - (intOf i).toNat)
 case atStart => exact ⟨0, _, _, rfl, jz _, HST.out⟩
 case round =>
  revert hrel
  revert wr
  intro wo hrel
  obtain ⟨d, v, cs, rfl, hd, hp⟩ := hrel
  have HPL := jh hp
  have c5 := hp.rd.c5
  have c1 := hp.rd.c1
  have c3 := hp.rd.c3
  have z5 := hp.rd.zR 5
  have y0 := jc hp.h0 0 rfl
  have zy : ∀ i, wo.frozen? ⟨V.heap.size, i, none⟩ = false := fun i => by simp [World.frozen?, hp.h0]
  have y1 := jc hp.h1 0 rfl
  have hws := hp.size
  have hs1 : V.heap.size < wo.heap.size := by omega
  have hs2 : V.heap.size + 1 < wo.heap.size := by omega
  have hs5 : C.R < wo.heap.size := by omega
  obtain ⟨av, cv, hv, _⟩ := own_slice hp.row
  subst hv
  rw [HNR.out, HRA.out] at c1
  rw [HNR.out, HFA.out] at c3
  obtain ⟨e, he⟩ := je (F + d)
  rw [he]
  have HE := jh he
  have n1 : C.R ≠ V.heap.size := by omega
  have n3 : V.heap.size ≠ C.R := by omega
  by_cases hdN : d < N
  ·have hlt1 : (e : Int) < F + N := by omega
   obtain ⟨bd, hbd⟩ := je (((List.range' F d).foldl (rowF C.n (RR C.n f).1) ([], s)).2.bad)
   rw [hbd] at c5
   cases bd
   ·have her : e < nr := by omega
    have hex : e < C.fc := by omega
    obtain ⟨u, hu⟩ : ∃ u, ((List.range' F d).foldl (rowF C.n (RR C.n f).1) ([], s)).2.rows[e]? = some u := ⟨_, jk (by rw [hp.rd.lr, HNR.out]; omega)⟩
    have k3 := hp.rd.fr e u hu
    have zk := hp.rd.zB e
    have hsB : C.RB < wo.heap.size := jt HO.out.hi.2.1 hp.rd.top
    cases u
    ·obtain ⟨b, o, ax, ts, nm, ps, p, m, c, hra, hbW, hrow, p0, p1, p2, p3, hrd⟩ := hp.rd.row HO.out (k := e) (by rw [HNR.out]; exact her)
     rw [HRA.out] at hra
     injection hra with hra
     injection hra with hra hra2
     subst hra hra2
     have hma := HO.out.ly e
     rw [hrow] at hma
     have hma : ps.length ≤ 1048576 := hma
     have hun := unused_markRow hu
     have hrd1 := hp.rd.markRow HO.out hu
     have hl3 := HO.out.lo
     have hh3 := HO.out.hi
     have hbp : rb ≠ C.RB := by omega
     have hbq : C.RB ≠ rb := by omega
     have hq1 : C.R ≠ C.RB := HO.out.ne.1
     have hq2 : C.RB ≠ C.R := HO.out.ne.1.symm
     have hbs : rb < wo.heap.size := lt_of_cell p0
     have her2 : e < C.rc := by omega
     obtain ⟨W1, hW1⟩ := je (((wo.setCell ⟨C.RB, e, none⟩ (.bool true)).alloc (.cells #[.int .i64 ax, .int .i64 ts, .string nm, .slice p m c] 55)).alloc (.cells #[.int .i64 ax, .int .i64 ts, .string nm, .slice none 0 0] 64))
     have hsz1 : W1.heap.size = wo.heap.size + 2 := by rw [← hW1]; simp
     have hB1 : Below wo.heap.size (wo.setCell ⟨C.RB, e, none⟩ (.bool true)) W1 := by
      rw [← hW1]
      exact ((jf _ _).alloc (by rw [jv]; exact jr _) _).alloc (by simp) _
     have HR1 := jh (hrd1.below HO.out (hB1.mono hp.rd.top))
     have HO1 : Hid (Only C wo W1) := jh (((Only.refl C wo).set (p := ⟨C.RB, e, none⟩) hl3.2.1 hh3.2.1 _).step hB1 (by have := hp.rd.top; omega))
     have HK1 : Hid (∀ b, C.top ≤ b → b < wo.heap.size → W1.heap[b]? = wo.heap[b]?) := jh fun b h1 h2 => (hB1.block b h2).trans (js _ _ _ b (by show b ≠ C.RB; omega))
     have hx1 : W1.heap[wo.heap.size + 1]? = some (.cells #[.int .i64 ax, .int .i64 ts, .string nm, .slice none 0 0] 64) := by
      rw [← hW1]
      have := jw ((wo.setCell ⟨C.RB, e, none⟩ (.bool true)).alloc (.cells #[.int .i64 ax, .int .i64 ts, .string nm, .slice p m c] 55)) (.cells #[.int .i64 ax, .int .i64 ts, .string nm, .slice none 0 0] 64)
      rw [World.size_alloc, jv] at this
      exact this
     have HST2 : Hid (XL C wo W1 (RR C.n f).1 ps (((List.range' F d).foldl (rowF C.n (RR C.n f).1) ([], s)).2.markRow e) 66 (wo.heap.size + 2) (wo.heap.size + 1) 64 (fun v => #[.int .i64 ax, .int .i64 ts, .string nm, v]) 0 (.slice none 0 0) [] W1) :=
      jh (XL.start HR1.out HO1.out hsz1.symm hx1)
     have HUF : Hid (∀ q, unused (foldX (RR C.n f).1 (ps.take q) (((List.range' F d).foldl (rowF C.n (RR C.n f).1) ([], s)).2.markRow e)).2 < f) := jh fun q => by
      have h1 := (foldX_fewer (RR_fewer C.n f).1 (ps.take q) ([], ((List.range' F d).foldl (rowF C.n (RR C.n f).1) ([], s)).2.markRow e)).1
      have h2 := HF.out d hbd
      unfold foldX
      simp only at h1
      omega
     have HRD := jh hrd
     have hml := hrd.len
     have hmc := hrd.le
     have hmc2 := hrd.cap_le
     have HLN := jh hml
     have HQM := jh (show m ≤ 1048576 by omega)
     have hmm : m ≤ 9223372036854775807 := by unfold maxLen at hmc2; omega
     have HHW := jh hW1
     have HBD := jh hbd
     have HU := jh hu
     have HROW := jh hrow
     have HWT := jh hp.rd.top
     clear hp hma hun hrd1 hB1 hx1 hrd hml hmc hmc2 hsz1 hW1 hl3 hh3 hrow hu hbd
     go_wp2_with fail
     rw [HHW.out]
     clear p0 p1 p2 p3 k3 zk c1 c3 c5 z5 y0 y1 zy
     go_loopw [85] (fun i w => ∃ (q : Nat) (v2 : Value) (cs2 : List N7), i = .int .i64 q ∧ q ≤ m ∧ XL C wo W1 (RR C.n f).1 ps (((List.range' F d).foldl (rowF C.n (RR C.n f).1) ([], s)).2.markRow e) 66 (wo.heap.size + 2) (wo.heap.size + 1) 64 (fun v => #[.int .i64 ax, .int .i64 ts, .string nm, v]) q v2 cs2 w) (fun i _ => m - (intOf i).toNat)
     case atStart => exact ⟨0, _, _, rfl, jz _, HST2.out⟩
     case round =>
      obtain ⟨q, v2, cs2, rfl, hq, hx⟩ := hrel
      by_cases hqm : q < m
      ·have hqm' : (q : Int) < m := by omega
       obtain ⟨ba, oa, rfl, hba, hc⟩ := (HRD.out.below hx.rd.bel).cell q hqm
       have k1 := hc q hqm
       have hk := get_gt (xs := ps) (q := q) (by have := HLN.out; omega)
       obtain ⟨k, hkk⟩ := je (gt ps q)
       rw [hkk] at k1 hk
       obtain ⟨r, hr⟩ := je ((RR C.n f).1 k (foldX (RR C.n f).1 (ps.take q) (((List.range' F d).foldl (rowF C.n (RR C.n f).1) ([], s)).2.markRow e)).2)
       have HX : Hid (∀ V' : World, RdW C V' (foldX (RR C.n f).1 (ps.take q) (((List.range' F d).foldl (rowF C.n (RR C.n f).1) ([], s)).2.markRow e)).2 → Calls Tryz.prog 93 #[.pointer (some ⟨C.R, 0, none⟩), .int .i64 k] V' (XPost C V' r)) := jh fun V' hV => by
        have := HIX.out _ k V' hV (.inl (HUF.out q))
        rw [hr] at this
        exact this
       have HK := jh hk
       have HRE := jh hr
       have HXL := jh hx
       have hxb := hx.hx
       have hx0 := jc hxb 3 rfl
       have hxs : wo.heap.size + 1 < wr.heap.size := jl hxb
       clear hc hkk hk hr hx hxb
       have hzf : wr.frozen? ⟨wo.heap.size + 1, 3, none⟩ = false := by simp [World.frozen?, HXL.out.hx]
       have HTG : Hid (∀ g, v2.ownBlock = some g → C.top ≤ g) := jh fun g hg => by
        have := (World.ownsRow.lt HXL.out.row g hg).1
        have := HWT.out
        omega
       have HOWN : Hid (some (wo.heap.size + 1) ≠ v2.ownBlock) := jh fun e => by
        have := (World.ownsRow.lt HXL.out.row _ e.symm).1
        omega
       have HQ4 : Hid (q < 1099511627776) := jh (by have := HQM.out; omega)
       have HVL := jh (show C.top ≤ wo.heap.size + 1 by have := HWT.out; omega)
       go_upto_region 17 with fail
       go_region_law (first
        | (go_simp; go_at_call 93; refine (HX.out _ (by first | exact HXL.out.rd | exact HXL.out.rd.below HO.out (jf _ _).drew)).mono ?_; rintro e w2 ⟨op2, e1, e2, e3, e4, e5, e6, nm2, cmp2, txt2, num2, rfl, hrob, hrd2, honly⟩; have ho2 : Only C wr w2 := ⟨honly.os, honly.tape, honly.output, honly.size, honly.low, honly.high⟩; have hrob2 : Rob wr.heap.size w2 none (fun W' => MX W' r.1 ⟨op2, e1, e2, e3, e4, e5, e6, nm2, cmp2, txt2, num2⟩) := hrob; have hxb2 := (ho2.high _ HVL.out hxs).trans HXL.out.hx; have hx2 : w2.cell? ⟨wo.heap.size + 1, 3, none⟩ = some v2 := (by simp [World.cell?, hxb2]); have hzf2 : w2.frozen? ⟨wo.heap.size + 1, 3, none⟩ = false := (by simp [World.frozen?, hxb2]); have hxs2 : wo.heap.size + 1 < w2.heap.size := jt hxs ho2.size; have HROB := jh hrob2; have HRD2 := jh hrd2; have HO2 := jh ho2; have HXB2 := jh hxb2; have HLT2 : Hid (w2.heap.size < (w2.alloc (.cells #[.int .i64 op2, .slice e1 e2 e3, .slice e4 e5 e6, .string nm2, .int .i64 cmp2, .string txt2, .int .i64 num2] 66)).heap.size) := jh (by rw [World.size_alloc]; exact Nat.lt_succ_self _); have HROW2 : Hid ((w2.alloc (.cells #[.int .i64 op2, .slice e1 e2 e3, .slice e4 e5 e6, .string nm2, .int .i64 cmp2, .string txt2, .int .i64 num2] 66)).ownsRow (wo.heap.size + 2) 66 7 v2 q (cs2.flatMap cell7)) := jh (World.ownsRow.alloc (ownsRow_same HXL.out.row fun g hg => ho2.high g (HTG.out g hg) (World.ownsRow.lt HXL.out.row g hg).2) _); have HNEW2 : Hid (∀ j u, (cell7 ⟨op2, e1, e2, e3, e4, e5, e6, nm2, cmp2, txt2, num2⟩)[j]? = some u → (w2.alloc (.cells #[.int .i64 op2, .slice e1 e2 e3, .slice e4 e5 e6, .string nm2, .int .i64 cmp2, .string txt2, .int .i64 num2] 66)).cell? ⟨w2.heap.size, j, none⟩ = some u) := jh (cell7_new w2 ⟨op2, e1, e2, e3, e4, e5, e6, nm2, cmp2, txt2, num2⟩ 66); clear hrob hrob2 hrd2 honly ho2 hxb2)
        | (refine step_appK _ (by rfl) (.tmp 90) (.tmp 94) 37 66 (by rfl) _ 7 104 info_expr Tryz.underlying37 (by rfl) (by decide) (by decide) (wo.heap.size + 2) v2 q (cs2.flatMap cell7) (by rfl) HROW2.out (cell7 ⟨op2, e1, e2, e3, e4, e5, e6, nm2, cmp2, txt2, num2⟩) (by rfl) (cell7_one _) w2.heap.size (by rfl) HNEW2.out HQ4.out (ju HXL.out.size (ju HO2.out.size (Nat.le_of_lt HLT2.out))) ?_; intro v3 w3 own3 grow3 at3; obtain ⟨a3, c3, rfl, _⟩ := own_slice own3; have hgr : w2.grownBy w3 v2.ownBlock := ⟨grow3.os, grow3.tape, grow3.output, ju (Nat.le_of_lt HLT2.out) grow3.size, fun b hb hne => (grow3.block b (Nat.lt_trans hb HLT2.out) hne).trans (heap_alloc_old w2 _ hb)⟩; have hat : (Value.slice a3 (q + 1) c3).ownBlock = v2.ownBlock ∨ ∃ j, (Value.slice a3 (q + 1) c3).ownBlock = some j ∧ w2.heap.size ≤ j := at3.elim .inl fun e => .inr ⟨_, e, Nat.le_of_lt HLT2.out⟩; have hxb3 := (hgr.block _ hxs2 HOWN.out).trans HXB2.out; have hx3 : w3.cell? ⟨wo.heap.size + 1, 3, none⟩ = some v2 := (by simp [World.cell?, hxb3]); have hzf3 : w3.frozen? ⟨wo.heap.size + 1, 3, none⟩ = false := (by simp [World.frozen?, hxb3]); have hxs3 : wo.heap.size + 1 < w3.heap.size := jt hxs2 hgr.size; have HG3 := jh hgr; have HAT3 := jh hat; have HOW3 := jh own3; clear own3 grow3 at3 hgr hat hxb3))
       all_goals
        go_wp2_with fail
        go_roundw
        case rel => exact ⟨q + 1, _, _, by go_num, by omega, HXL.out.next HO.out (Nat.le_add_right _ _) HWT.out ⟨Nat.le_add_right _ _, Nat.lt_succ_self _⟩ 3 (fun _ _ => rfl) HK.out HRE.out HO2.out HROB.out HRD2.out HOW3.out HG3.out HAT3.out⟩
        case measure => simp [intOf]; omega
      ·obtain rfl : q = m := by omega
       have HXL := jh hx
       have hxb := hx.hx
       obtain ⟨a2, c2, rfl, _⟩ := own_slice hx.row
       have e0 := jc hxb 0 rfl; have e1 := jc hxb 1 rfl; have e2 := jc hxb 2 rfl; have e3 := jc hxb 3 rfl
       have hxs : wo.heap.size + 1 < wr.heap.size := jl hxb
       have hp1 : wr.heap[V.heap.size + 1]? = some (.cells #[.slice av cs.length cv] 25) := (hx.fix _ (by have := HVT.out; omega) (by omega) (by omega)).trans ((HK1.out _ (by have := HVT.out; omega) (by omega)).trans HPL.out.h1)
       have y1 := jc hp1 0 rfl
       have hys : V.heap.size + 1 < wr.heap.size := by omega
       have hrow4 : wr.ownsRow (V.heap.size + 2) 64 4 (.slice av cs.length cv) cs.length (cs.flatMap cell4s) := ownsRow_same HPL.out.row fun g hg => by
        have h1 := World.ownsRow.lt HPL.out.row g hg
        have := HVT.out
        exact (hx.fix g (by omega) (by omega) (by omega)).trans (HK1.out g (by omega) h1.2)
       have hcl : cs.length < 1099511627776 := by have := HPL.out.le; omega
       have hbl : V.heap.size + 2 ≤ wr.heap.size := by omega
       have HNE : Hid (some (V.heap.size + 1) ≠ (Value.slice av cs.length cv).ownBlock) := jh fun e => by
        have := (World.ownsRow.lt HPL.out.row _ e.symm).1
        omega
       have HP1 := jh hp1
       clear hx hxb hp1
       go_wp2_with (at_builtin; refine appendK wr rfl _ _ 23 64 rfl _ 4 56 info_step Tryz.underlying23 (by rfl) (by decide) (by decide) (V.heap.size + 2) (.slice av cs.length cv) cs.length (cs.flatMap cell4s) rfl hrow4 (cell4s ⟨ax, ts, nm, a2, q, c2⟩) (by rfl) (cell4s_one _) rfl hcl hbl ?_; intro v3 w3 own3 grow3 at3; obtain ⟨a3, c3, rfl, _⟩ := own_slice own3; have hxb3 := (grow3.block _ hys HNE.out).trans HP1.out; have hx3 : w3.cell? ⟨V.heap.size + 1, 0, none⟩ = some (.slice av cs.length cv) := (by simp [World.cell?, hxb3]); have hzf3 : w3.frozen? ⟨V.heap.size + 1, 0, none⟩ = false := (by simp [World.frozen?, hxb3]); have hxs3 : V.heap.size + 1 < w3.heap.size := jt hys grow3.size; have hat : (Value.slice a3 (cs.length + 1) c3).ownBlock = (Value.slice av cs.length cv).ownBlock ∨ ∃ j, (Value.slice a3 (cs.length + 1) c3).ownBlock = some j ∧ wr.heap.size ≤ j := at3.elim .inl fun e => .inr ⟨_, e, Nat.le_succ _⟩; have HG3 := jh grow3; have HAT3 := jh hat; have HOW3 := jh own3; clear own3 grow3 at3 hat hxb3)
       have hE2 : e + 1 = F + (d + 1) := by omega
       go_roundw
       case rel =>
        refine ⟨d + 1, _, _, by go_num, by omega, HPL.out.next HO.out HVT.out (by rw [he]; exact HROW.out) HBD.out (by rw [he]; exact HU.out) (by rw [he]; exact HXL.out) HLN.out HK1.out rfl HOW3.out HG3.out HAT3.out⟩
       case measure => simp [intOf]; omega
    ·have hfin : TPost C V ((List.range' F N).foldl (rowF C.n (RR C.n f).1) ([], s)) (.returned (.agg #[.slice av cs.length cv])) ((wo.setCell ⟨C.R, 5, none⟩ (.bool true)).setCell ⟨V.heap.size, 0, none⟩ (.slice av cs.length cv)) := by
      have hn : (List.range' F (d + 1)).foldl (rowF C.n (RR C.n f).1) ([], s) = (((List.range' F d).foldl (rowF C.n (RR C.n f).1) ([], s)).1, ((List.range' F d).foldl (rowF C.n (RR C.n f).1) ([], s)).2.spoil) := by
       rw [fold_next, he]
       generalize (List.range' F d).foldl (rowF C.n (RR C.n f).1) ([], s) = acc at hbd hu
       unfold rowF
       rw [if_neg (by rw [hbd]; exact Bool.noConfusion), if_pos (by rw [jg, hu]; rfl)]
      rw [fold_stop (d := d + 1) C.n _ (by omega) (by rw [hn]; rfl), hn]
      have hB : Below V.heap.size (wo.setCell ⟨C.R, 5, none⟩ (.bool true)) ((wo.setCell ⟨C.R, 5, none⟩ (.bool true)).setCell ⟨V.heap.size, 0, none⟩ (.slice av cs.length cv)) := (jf _ _).setCell (p := ⟨V.heap.size, 0, none⟩) (jr _) _
      exact hp.done (by simp only [jv]; exact jr _) (fun b h1 h2 => (js _ _ _ b (by show b ≠ V.heap.size; omega)).trans (js _ _ _ b (by show b ≠ C.R; omega))) ((hp.rd.spoil HO.out).below HO.out (hB.mono HVT.out)) ((hp.only.set (p := ⟨C.R, 5, none⟩) HO.out.lo.1 HO.out.hi.1 _).step hB (by have := HO.out.lo; have := HO.out.hi; have := HVT.out; omega))
     have HFIN := jh hfin
     clear hp hfin
     go_wp2_with fail
     refine bodyPost_ret (v := .agg #[.slice av cs.length cv]) ?_ rfl HFIN.out
     simp [results, Tryz.f61, go_sem, y0]
   ·have hfin : TPost C V ((List.range' F N).foldl (rowF C.n (RR C.n f).1) ([], s)) (.returned (.agg #[.slice av cs.length cv])) (wo.setCell ⟨V.heap.size, 0, none⟩ (.slice av cs.length cv)) := by
     rw [fold_stop C.n _ hd hbd]
     have hB : Below V.heap.size wo (wo.setCell ⟨V.heap.size, 0, none⟩ (.slice av cs.length cv)) := (jf _ _).setCell (p := ⟨V.heap.size, 0, none⟩) (jr _) _
     exact hp.done (by rw [jv]; exact jr _) (fun b h1 h2 => js _ _ _ b (by show b ≠ V.heap.size; omega)) (hp.rd.below HO.out (hB.mono HVT.out)) (hp.only.step hB (by have := HO.out.lo; have := HO.out.hi; have := HVT.out; omega))
    have HFIN := jh hfin
    clear hp hfin
    go_wp2_with fail
    refine bodyPost_ret (v := .agg #[.slice av cs.length cv]) ?_ rfl HFIN.out
    simp [results, Tryz.f61, go_sem, y0]
  ·obtain rfl : d = N := by omega
   have hfin : TPost C V ((List.range' F d).foldl (rowF C.n (RR C.n f).1) ([], s)) (.returned (.agg #[.slice av cs.length cv])) (wo.setCell ⟨V.heap.size, 0, none⟩ (.slice av cs.length cv)) := by
    have hB : Below V.heap.size wo (wo.setCell ⟨V.heap.size, 0, none⟩ (.slice av cs.length cv)) := (jf _ _).setCell (p := ⟨V.heap.size, 0, none⟩) (jr _) _
    exact hp.done (by rw [jv]; exact jr _) (fun b h1 h2 => js _ _ _ b (by show b ≠ V.heap.size; omega)) (hp.rd.below HO.out (hB.mono HVT.out)) (hp.only.step hB (by have := HO.out.lo; have := HO.out.hi; have := HVT.out; omega))
   have HFIN := jh hfin
   clear hp hfin
   have hlt1 : ¬ (e : Int) < F + d := by omega
   go_wp2_with fail
   refine bodyPost_ret (v := .agg #[.slice av cs.length cv]) ?_ rfl HFIN.out
   simp [results, Tryz.f61, go_sem, y0]
theorem read_all (C : RC) (ok : C.Ok) : ∀ f, CRX C f ∧ CRP C f
 | 0 => by
  have hx : CRX C 0 := fun s k V h hf => by
   have hb : s.bad = true := hf.elim (fun h => absurd h (Nat.not_lt_zero _)) id
   exact readExpr_bad C ok s k V h (.inl hb)
  refine ⟨hx, fun s a c V ha hc h hf => ?_⟩
  have hb : s.bad = true := hf.elim (fun h => absurd h (Nat.not_lt_zero _)) id
  by_cases hoff : a < 0 ∨ c < 1 ∨ (C.n.rows.length : Int) - c < a
  ·exact readPath_off C ok s a c V h ha hc hoff
  ·obtain ⟨F, rfl⟩ : ∃ F : Nat, a = F := ⟨a.toNat, by omega⟩
   obtain ⟨N, rfl⟩ : ∃ N : Nat, c = N := ⟨c.toNat, by omega⟩
   have := readPath_good C ok 0 hx s F N V h (by omega) (by omega) (.inr hb)
   rw [rowF_bad C.n _ ([], s) hb] at this
   rw [RR_path_bad C.n 0 _ _ s hb]
   exact this
 | f + 1 => by
  have ih := read_all C ok f
  refine ⟨fun s k V h hf => ?_, fun s a c V ha hc h hf => ?_⟩
  ·by_cases hbad : s.bad = true ∨ k < 0 ∨ (C.n.preds.length : Int) ≤ k ∨ s.preds.getD k.toNat true = true
   ·have e : (RR C.n (f + 1)).1 k s = (zx, s.spoil) := by
     show exprF C.n _ _ k s = _
     unfold exprF
     rw [if_pos hbad]
    rw [e]
    exact readExpr_bad C ok s k V h hbad
   ·obtain ⟨j, rfl⟩ : ∃ j : Nat, k = j := ⟨k.toNat, by omega⟩
    have hb : s.bad = false := by
     cases e : s.bad
     ·rfl
     ·exact absurd (.inl e) hbad
    have hj : j < C.n.preds.length := by omega
    have hjl : j < s.preds.length := by rw [h.lp]; exact hj
    have hu : s.preds[j]? = some false := by
     rw [jk hjl]
     cases e : s.preds[j]
     ·rfl
     ·refine absurd (.inr (.inr (.inr ?_))) hbad
      rw [show ((j : Int)).toNat = j from rfl, jg, jk hjl, e]
      rfl
    refine readExpr_good C ok f ih.1 ih.2 s j V h hb hj hu (hf.elim id fun e => ?_)
    rw [hb] at e
    cases e
  ·by_cases hoff : a < 0 ∨ c < 1 ∨ (C.n.rows.length : Int) - c < a
   ·have e : (RR C.n (f + 1)).2 a c s = ([], s.spoil) := by
     show pathF C.n _ a c s = _
     unfold pathF
     rw [if_pos hoff]
    rw [e]
    exact readPath_off C ok s a c V h ha hc hoff
   ·have e : (RR C.n (f + 1)).2 a c s = (List.range' a.toNat c.toNat).foldl (rowF C.n (RR C.n f).1) ([], s) := by
     show pathF C.n _ a c s = _
     unfold pathF
     rw [if_neg hoff]
    rw [e]
    obtain ⟨F, rfl⟩ : ∃ F : Nat, a = F := ⟨a.toNat, by omega⟩
    obtain ⟨N, rfl⟩ : ∃ N : Nat, c = N := ⟨c.toNat, by omega⟩
    exact readPath_good C ok f ih.1 s F N V h (by omega) (by omega) hf
end Go.Proofs.YtkhejkfjhddobaaGreatDoor
