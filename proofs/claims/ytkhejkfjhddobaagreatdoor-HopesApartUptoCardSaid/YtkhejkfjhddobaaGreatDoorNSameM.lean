/- Nets in memory; slices.Equal of numbers; gimlet/net.same's two comparisons. -/
import Derived.Test.YtkhejkfjhddobaaGreatDoorUtfM
import Derived.Deep.CutRange
import Derived.Deep.CutBlock
set_option maxRecDepth 100000
set_option maxHeartbeats 8000000
namespace Gim
open Go Go.RowKit
structure yCK where
 ax : Int
 ts : Int
 nm : ByteArray
 ps : List Int
structure yAG where
 op : Int
 args : List Int
 first : Int
 count : Int
 attr : ByteArray
 cmp : Int
 txt : ByteArray
 num : Int
def yKO (W : World) (r : yCK) (b o : Nat) : Prop := b < W.heap.size ∧ W.cell? ⟨b, o, none⟩ = some (.int .i64 r.ax) ∧ W.cell? ⟨b, o + 1, none⟩ = some (.int .i64 r.ts) ∧ W.cell? ⟨b, o + 2, none⟩ = some (.string r.nm) ∧ ∃ p n c, W.cell? ⟨b, o + 3, none⟩ = some (.slice p n c) ∧ Rd W .i64 p n c r.ps
def yHU (W : World) (d : yAG) (b o : Nat) : Prop := b < W.heap.size ∧ W.cell? ⟨b, o, none⟩ = some (.int .i64 d.op) ∧ W.cell? ⟨b, o + 2, none⟩ = some (.int .i64 d.first) ∧ W.cell? ⟨b, o + 3, none⟩ = some (.int .i64 d.count) ∧ W.cell? ⟨b, o + 4, none⟩ = some (.string d.attr) ∧ W.cell? ⟨b, o + 5, none⟩ = some (.int .i64 d.cmp) ∧ W.cell? ⟨b, o + 6, none⟩ = some (.string d.txt) ∧ W.cell? ⟨b, o + 7, none⟩ = some (.int .i64 d.num) ∧ ∃ p n c, W.cell? ⟨b, o + 1, none⟩ = some (.slice p n c) ∧ Rd W .i64 p n c d.args
structure yA2 (W : World) (rs : List yCK) (a : Option Addr) (n cap : Nat) : Prop where
 len : rs.length = n
 le : n ≤ cap
 cap_le : cap ≤ maxLen
 fit : ∀ j, j < n → ∃ b o, a = some ⟨b, o, none⟩ ∧ ∀ (i : Nat) (r : yCK), rs[i]? = some r → yKO W r b (o + i * 4)
structure yAR (W : World) (ds : List yAG) (a : Option Addr) (n cap : Nat) : Prop where
 len : ds.length = n
 le : n ≤ cap
 cap_le : cap ≤ maxLen
 fit : ∀ j, j < n → ∃ b o, a = some ⟨b, o, none⟩ ∧ ∀ (i : Nat) (d : yAG), ds[i]? = some d → yHU W d b (o + i * 8)
theorem yKO.below {w w' : World} (hb : Below w.heap.size w w') {r : yCK} {b o : Nat} (h : yKO w r b o) : yKO w' r b o := by obtain ⟨h0, h1, h2, h3, p, n, c, h4, h5⟩ := h; exact ⟨jt h0 hb.size, (hb.cell (p := ⟨b, o, none⟩) h0).trans h1, (hb.cell (p := ⟨b, o + 1, none⟩) h0).trans h2, (hb.cell (p := ⟨b, o + 2, none⟩) h0).trans h3, p, n, c, (hb.cell (p := ⟨b, o + 3, none⟩) h0).trans h4, h5.below hb⟩
theorem yHU.below {w w' : World} (hb : Below w.heap.size w w') {d : yAG} {b o : Nat} (h : yHU w d b o) : yHU w' d b o := by obtain ⟨h0, h1, h2, h3, h4, h5, h6, h7, p, n, c, h8, h9⟩ := h; exact ⟨jt h0 hb.size, (hb.cell (p := ⟨b, o, none⟩) h0).trans h1, (hb.cell (p := ⟨b, o + 2, none⟩) h0).trans h2, (hb.cell (p := ⟨b, o + 3, none⟩) h0).trans h3, (hb.cell (p := ⟨b, o + 4, none⟩) h0).trans h4, (hb.cell (p := ⟨b, o + 5, none⟩) h0).trans h5, (hb.cell (p := ⟨b, o + 6, none⟩) h0).trans h6, (hb.cell (p := ⟨b, o + 7, none⟩) h0).trans h7, p, n, c, (hb.cell (p := ⟨b, o + 1, none⟩) h0).trans h8, h9.below hb⟩
theorem yA2.below {w w' : World} {rs : List yCK} {a : Option Addr} {n cap : Nat} (h : yA2 w rs a n cap) (hb : Below w.heap.size w w') : yA2 w' rs a n cap :=
 ⟨h.len, h.le, h.cap_le, fun j hj => by obtain ⟨b, o, e, k⟩ := h.fit j hj; exact ⟨b, o, e, fun i r hr => (k i r hr).below hb⟩⟩
theorem yAR.below {w w' : World} {ds : List yAG} {a : Option Addr} {n cap : Nat} (h : yAR w ds a n cap) (hb : Below w.heap.size w w') : yAR w' ds a n cap :=
 ⟨h.len, h.le, h.cap_le, fun j hj => by obtain ⟨b, o, e, k⟩ := h.fit j hj; exact ⟨b, o, e, fun i r hr => (k i r hr).below hb⟩⟩
theorem toList_inj {a b : ByteArray} (h : a.toList = b.toList) : a = b := by rw [ByteArray.toList_eq, ByteArray.toList_eq] at h; cases a; cases b; simp only [ByteArray.mk.injEq]; exact Array.toList_inj.1 h
theorem yGP {α : Type} {xs ys : List α} {q : Nat} (h : xs.take q = ys.take q) {x y : α} (hx : xs[q]? = some x) (hy : ys[q]? = some y) : xs.take (q + 1) = ys.take (q + 1) ↔ x = y := by rw [List.take_add_one, List.take_add_one, hx, hy, h]; simp
theorem yEm {xs : List Int} {q : Nat} (h : q < xs.length) : xs[q]? = some (gt xs q) := by unfold gt; rw [jk h]; rfl
end Gim
namespace Go.Proofs.YtkhejkfjhddobaaGreatDoor
open Go.RowKit Gim
theorem yJR (ao bo : Option Addr) (n cap m cap2 : Nat) (xs ys : List Int) (w : World) (h : Rd w .i64 ao n cap xs) (h2 : Rd w .i64 bo m cap2 ys) :
  Calls Tryz.prog 95 #[.slice ao n cap, .slice bo m cap2] w fun e w' => ∃ b, e = .returned (.bool b) ∧ (b = true ↔ xs = ys) ∧ yAJ w w' := by
 have HR := jh h; have HR2 := jh h2; have hle := h.le; have hcm := h.cap_le; have hnb : n ≤ 9223372036854775807 := by unfold maxLen at hcm; omega
 have hle2 := h2.le; have hcm2 := h2.cap_le; have hmb : m ≤ 9223372036854775807 := by unfold maxLen at hcm2; omega
 have HL1 := jh h.len; have HL2 := jh h2.len; clear h h2 hle hcm hle2 hcm2; by_cases hnm : n = m
 ·subst hnm; go_enter Tryz.func95, Tryz.ntmps95; go_wp2_with fail; go_loopw [13] (fun i wr => ∃ q : Nat, i = .int .i64 q ∧ q ≤ n ∧ Hid (xs.take q = ys.take q) ∧ yAJ w wr) (fun i _ => n - (intOf i).toNat)
  case atStart => exact ⟨0, rfl, jz _, jh (by simp), yAJ.refl _⟩
  case round =>
   obtain ⟨q, rfl, hq, HT, hd⟩ := hrel; by_cases hqn : q < n
   ·have hqn' : (q : Int) < n := by omega
    obtain ⟨b, o, rfl, hb1, hc⟩ := (HR.out.below (hd.below _)).cell q hqn; obtain ⟨b2, o2, rfl, hb2, hc2⟩ := (HR2.out.below (hd.below _)).cell q hqn; have k1 := hc q hqn; have k2 := hc2 q hqn; have ht := jh (yGP HT.out (yEm (by have := HL1.out; omega)) (yEm (by have := HL2.out; omega))); obtain ⟨t, h1⟩ := je (gt xs q); obtain ⟨u, h2⟩ := je (gt ys q); rw [h1, h2] at ht; rw [h1] at k1; rw [h2] at k2; clear h1 h2 hc hc2; by_cases htu : t = u
    ·subst htu; have HT2 := jh (ht.out.2 rfl); clear ht; go_upto_region 6 with fail; go_quiet (fail); go_wp2_with fail; go_roundw
     case rel => exact ⟨q + 1, by go_num, by omega, HT2, hd.drewN _⟩
     case measure => simp [intOf]; omega
    ·have htu' : (t != u) = true := by simpa using htu
     have HN := jh (show xs ≠ ys from fun e => htu (ht.out.1 (by rw [e]))); clear ht htu; go_upto_region 6 with fail; go_quiet (fail); go_wp2_with fail; go_ret; exact ⟨false, rfl, ⟨(fun e => by cases e), fun e => absurd e HN.out⟩, hd.drewN _⟩
   ·obtain rfl : q = n := by omega
    have HE := jh (show xs = ys by have := HT.out; rw [jm (by rw [HL1.out]; exact jr _), jm (by rw [HL2.out]; exact jr _)] at this; exact this); go_wp2_with fail; go_ret; exact ⟨true, rfl, ⟨fun _ => HE.out, fun _ => rfl⟩, hd⟩
 ·have hnm' : ((n : Int) != m) = true := by simp; omega
  have HN := jh (show xs ≠ ys from fun e => hnm (by rw [← HL1.out, ← HL2.out, e])); clear hnm; go_enter Tryz.func95, Tryz.ntmps95; go_wp2_with fail; go_ret; exact ⟨false, rfl, ⟨(fun e => by cases e), fun e => absurd e HN.out⟩, yAJ.refl _⟩
-- PRINTED BY mknsame.py
theorem yJr (ax ts : Int) (nm : ByteArray) (ps : List Int) (p : Option Addr) (n c : Nat) (ax2 ts2 : Int) (nm2 : ByteArray) (ps2 : List Int) (p2 : Option Addr) (n2 c2 : Nat) (w : World) (h : Rd w .i64 p n c ps) (h2 : Rd w .i64 p2 n2 c2 ps2) :
  Calls Tryz.prog 94 #[.agg #[.int .i64 ax, .int .i64 ts, .string nm, .slice p n c], .agg #[.int .i64 ax2, .int .i64 ts2, .string nm2, .slice p2 n2 c2]] w fun e w' => ∃ b, e = .returned (.bool b) ∧ (b = true ↔ (⟨ax, ts, nm, ps⟩ : yCK) = ⟨ax2, ts2, nm2, ps2⟩) ∧ Below w.heap.size w w' := by
 have hb0 : Below w.heap.size w ((w.alloc (.cells #[.int .i64 ax, .int .i64 ts, .string nm, .slice p n c] 55)).alloc (.cells #[.int .i64 ax2, .int .i64 ts2, .string nm2, .slice p2 n2 c2] 55)) := ((jf _ _).alloc (jr _) _).alloc (by simp) _; have hx : ((w.alloc (.cells #[.int .i64 ax, .int .i64 ts, .string nm, .slice p n c] 55)).alloc (.cells #[.int .i64 ax2, .int .i64 ts2, .string nm2, .slice p2 n2 c2] 55)).heap[w.heap.size]? = some (.cells #[.int .i64 ax, .int .i64 ts, .string nm, .slice p n c] 55) := (heap_alloc_old _ _ (by simp)).trans (jw _ _); have hy : ((w.alloc (.cells #[.int .i64 ax, .int .i64 ts, .string nm, .slice p n c] 55)).alloc (.cells #[.int .i64 ax2, .int .i64 ts2, .string nm2, .slice p2 n2 c2] 55)).heap[w.heap.size + 1]? = some (.cells #[.int .i64 ax2, .int .i64 ts2, .string nm2, .slice p2 n2 c2] 55) := by have := jw (w.alloc (.cells #[.int .i64 ax, .int .i64 ts, .string nm, .slice p n c] 55)) (.cells #[.int .i64 ax2, .int .i64 ts2, .string nm2, .slice p2 n2 c2] 55); rw [World.size_alloc] at this; exact this
 have HR := jh (h.below hb0); have HR2 := jh (h2.below hb0); have HB := jh hb0; obtain ⟨W1, hW1⟩ := je ((w.alloc (.cells #[.int .i64 ax, .int .i64 ts, .string nm, .slice p n c] 55)).alloc (.cells #[.int .i64 ax2, .int .i64 ts2, .string nm2, .slice p2 n2 c2] 55)); rw [hW1] at hx hy HR HR2 HB; have a0 := jc hx 0 rfl; have b0 := jc hy 0 rfl; have a1 := jc hx 1 rfl; have b1 := jc hy 1 rfl; have a2 := jc hx 2 rfl; have b2 := jc hy 2 rfl; have a3 := jc hx 3 rfl; have b3 := jc hy 3 rfl; have hE := yJR p p2 n c n2 c2 ps ps2 W1 HR.out HR2.out; clear hb0 hx hy h h2; have HLT : Hid (w.heap.size < W1.heap.size ∧ w.heap.size + 1 < W1.heap.size) := jh (by rw [← hW1]; simp only [World.size_alloc]; omega); go_enter Tryz.func94, Tryz.ntmps94; go_upto_region 1 with fail
 try rw [hW1]
 clear hW1; by_cases hax : ax = ax2
 ·subst hax; by_cases hts : ts = ts2
  ·subst hts; by_cases hnm : nm = nm2
   ·subst hnm; go_wp2_with fail; refine hE.mono ?_; rintro e w2 ⟨r, rfl, hr, dr⟩; have HBE := jh (HB.out.trans ((dr.below W1.heap.size).mono HB.out.size)); have a0 := ((dr.below W1.heap.size).cell (p := ⟨w.heap.size, 0, none⟩) HLT.out.1).trans a0; have b0 := ((dr.below W1.heap.size).cell (p := ⟨w.heap.size + 1, 0, none⟩) HLT.out.2).trans b0; have a1 := ((dr.below W1.heap.size).cell (p := ⟨w.heap.size, 1, none⟩) HLT.out.1).trans a1; have b1 := ((dr.below W1.heap.size).cell (p := ⟨w.heap.size + 1, 1, none⟩) HLT.out.2).trans b1; have a2 := ((dr.below W1.heap.size).cell (p := ⟨w.heap.size, 2, none⟩) HLT.out.1).trans a2; have b2 := ((dr.below W1.heap.size).cell (p := ⟨w.heap.size + 1, 2, none⟩) HLT.out.2).trans b2; have a3 := ((dr.below W1.heap.size).cell (p := ⟨w.heap.size, 3, none⟩) HLT.out.1).trans a3; have b3 := ((dr.below W1.heap.size).cell (p := ⟨w.heap.size + 1, 3, none⟩) HLT.out.2).trans b3; clear hE dr; cases r
    ·have HN := jh (show (⟨ax, ts, nm, ps⟩ : yCK) ≠ ⟨ax, ts, nm, ps2⟩ from fun e => by injection e with hax hts hnm hps; exact Bool.noConfusion (hr.2 hps)); clear hr; go_wp2_with fail; go_ret; exact ⟨false, rfl, ⟨(fun e => by cases e), fun e => absurd e HN.out⟩, HBE.out⟩
    ·have hq := hr.1 rfl; subst hq; clear hr; go_wp2_with fail; go_ret
     first | exact ⟨true, rfl, ⟨(fun _ => rfl), fun _ => rfl⟩, HBE.out⟩ | exact ⟨rfl, HBE.out⟩
   ·have HN := jh (show (⟨ax, ts, nm, ps⟩ : yCK) ≠ ⟨ax, ts, nm2, ps2⟩ from fun e => by injection e with hax hts hnm_ hps; exact hnm hnm_); have q3 : ¬ nm.toList = nm2.toList := fun e => hnm (toList_inj e)
    have q2 : (nm.toList == nm2.toList) = false := jn.2 q3; clear hnm; go_wp2_with fail; go_ret; exact ⟨false, rfl, ⟨(fun e => by cases e), fun e => absurd e HN.out⟩, HB.out⟩
  ·have HN := jh (show (⟨ax, ts, nm, ps⟩ : yCK) ≠ ⟨ax, ts2, nm2, ps2⟩ from fun e => by injection e with hax hts_ hnm hps; exact hts hts_); have q1 : (ts == ts2) = false := jn.2 hts; clear hts; go_wp2_with fail; go_ret; exact ⟨false, rfl, ⟨(fun e => by cases e), fun e => absurd e HN.out⟩, HB.out⟩
 ·have HN := jh (show (⟨ax, ts, nm, ps⟩ : yCK) ≠ ⟨ax2, ts2, nm2, ps2⟩ from fun e => by injection e with hax_ hts hnm hps; exact hax hax_); have q1 : (ax == ax2) = false := jn.2 hax; clear hax; go_wp2_with fail; go_ret; exact ⟨false, rfl, ⟨(fun e => by cases e), fun e => absurd e HN.out⟩, HB.out⟩
theorem yIV (op : Int) (args : List Int) (first count : Int) (attr : ByteArray) (cmp : Int) (txt : ByteArray) (num : Int) (p : Option Addr) (n c : Nat) (op2 : Int) (args2 : List Int) (first2 count2 : Int) (attr2 : ByteArray) (cmp2 : Int) (txt2 : ByteArray) (num2 : Int) (p2 : Option Addr) (n2 c2 : Nat) (w : World) (h : Rd w .i64 p n c args) (h2 : Rd w .i64 p2 n2 c2 args2) :
  Calls Tryz.prog 96 #[.agg #[.int .i64 op, .slice p n c, .int .i64 first, .int .i64 count, .string attr, .int .i64 cmp, .string txt, .int .i64 num], .agg #[.int .i64 op2, .slice p2 n2 c2, .int .i64 first2, .int .i64 count2, .string attr2, .int .i64 cmp2, .string txt2, .int .i64 num2]] w fun e w' => ∃ b, e = .returned (.bool b) ∧ (b = true ↔ (⟨op, args, first, count, attr, cmp, txt, num⟩ : yAG) = ⟨op2, args2, first2, count2, attr2, cmp2, txt2, num2⟩) ∧ Below w.heap.size w w' := by
 have hb0 : Below w.heap.size w ((w.alloc (.cells #[.int .i64 op, .slice p n c, .int .i64 first, .int .i64 count, .string attr, .int .i64 cmp, .string txt, .int .i64 num] 59)).alloc (.cells #[.int .i64 op2, .slice p2 n2 c2, .int .i64 first2, .int .i64 count2, .string attr2, .int .i64 cmp2, .string txt2, .int .i64 num2] 59)) := ((jf _ _).alloc (jr _) _).alloc (by simp) _; have hx : ((w.alloc (.cells #[.int .i64 op, .slice p n c, .int .i64 first, .int .i64 count, .string attr, .int .i64 cmp, .string txt, .int .i64 num] 59)).alloc (.cells #[.int .i64 op2, .slice p2 n2 c2, .int .i64 first2, .int .i64 count2, .string attr2, .int .i64 cmp2, .string txt2, .int .i64 num2] 59)).heap[w.heap.size]? = some (.cells #[.int .i64 op, .slice p n c, .int .i64 first, .int .i64 count, .string attr, .int .i64 cmp, .string txt, .int .i64 num] 59) := (heap_alloc_old _ _ (by simp)).trans (jw _ _); have hy : ((w.alloc (.cells #[.int .i64 op, .slice p n c, .int .i64 first, .int .i64 count, .string attr, .int .i64 cmp, .string txt, .int .i64 num] 59)).alloc (.cells #[.int .i64 op2, .slice p2 n2 c2, .int .i64 first2, .int .i64 count2, .string attr2, .int .i64 cmp2, .string txt2, .int .i64 num2] 59)).heap[w.heap.size + 1]? = some (.cells #[.int .i64 op2, .slice p2 n2 c2, .int .i64 first2, .int .i64 count2, .string attr2, .int .i64 cmp2, .string txt2, .int .i64 num2] 59) := by have := jw (w.alloc (.cells #[.int .i64 op, .slice p n c, .int .i64 first, .int .i64 count, .string attr, .int .i64 cmp, .string txt, .int .i64 num] 59)) (.cells #[.int .i64 op2, .slice p2 n2 c2, .int .i64 first2, .int .i64 count2, .string attr2, .int .i64 cmp2, .string txt2, .int .i64 num2] 59); rw [World.size_alloc] at this; exact this
 have HR := jh (h.below hb0); have HR2 := jh (h2.below hb0); have HB := jh hb0; obtain ⟨W1, hW1⟩ := je ((w.alloc (.cells #[.int .i64 op, .slice p n c, .int .i64 first, .int .i64 count, .string attr, .int .i64 cmp, .string txt, .int .i64 num] 59)).alloc (.cells #[.int .i64 op2, .slice p2 n2 c2, .int .i64 first2, .int .i64 count2, .string attr2, .int .i64 cmp2, .string txt2, .int .i64 num2] 59)); rw [hW1] at hx hy HR HR2 HB; have a0 := jc hx 0 rfl; have b0 := jc hy 0 rfl; have a1 := jc hx 1 rfl; have b1 := jc hy 1 rfl; have a2 := jc hx 2 rfl; have b2 := jc hy 2 rfl; have a3 := jc hx 3 rfl; have b3 := jc hy 3 rfl; have a4 := jc hx 4 rfl; have b4 := jc hy 4 rfl; have a5 := jc hx 5 rfl; have b5 := jc hy 5 rfl; have a6 := jc hx 6 rfl; have b6 := jc hy 6 rfl; have a7 := jc hx 7 rfl; have b7 := jc hy 7 rfl; have hE := yJR p p2 n c n2 c2 args args2 W1 HR.out HR2.out; clear hb0 hx hy h h2; have HLT : Hid (w.heap.size < W1.heap.size ∧ w.heap.size + 1 < W1.heap.size) := jh (by rw [← hW1]; simp only [World.size_alloc]; omega); go_enter Tryz.func96, Tryz.ntmps96; go_upto_region 1 with fail
 try rw [hW1]
 clear hW1; by_cases hop : op = op2
 ·subst hop; go_wp2_with fail; refine hE.mono ?_; rintro e w2 ⟨r, rfl, hr, dr⟩; have HBE := jh (HB.out.trans ((dr.below W1.heap.size).mono HB.out.size)); have a0 := ((dr.below W1.heap.size).cell (p := ⟨w.heap.size, 0, none⟩) HLT.out.1).trans a0; have b0 := ((dr.below W1.heap.size).cell (p := ⟨w.heap.size + 1, 0, none⟩) HLT.out.2).trans b0; have a1 := ((dr.below W1.heap.size).cell (p := ⟨w.heap.size, 1, none⟩) HLT.out.1).trans a1; have b1 := ((dr.below W1.heap.size).cell (p := ⟨w.heap.size + 1, 1, none⟩) HLT.out.2).trans b1; have a2 := ((dr.below W1.heap.size).cell (p := ⟨w.heap.size, 2, none⟩) HLT.out.1).trans a2; have b2 := ((dr.below W1.heap.size).cell (p := ⟨w.heap.size + 1, 2, none⟩) HLT.out.2).trans b2; have a3 := ((dr.below W1.heap.size).cell (p := ⟨w.heap.size, 3, none⟩) HLT.out.1).trans a3; have b3 := ((dr.below W1.heap.size).cell (p := ⟨w.heap.size + 1, 3, none⟩) HLT.out.2).trans b3; have a4 := ((dr.below W1.heap.size).cell (p := ⟨w.heap.size, 4, none⟩) HLT.out.1).trans a4; have b4 := ((dr.below W1.heap.size).cell (p := ⟨w.heap.size + 1, 4, none⟩) HLT.out.2).trans b4; have a5 := ((dr.below W1.heap.size).cell (p := ⟨w.heap.size, 5, none⟩) HLT.out.1).trans a5; have b5 := ((dr.below W1.heap.size).cell (p := ⟨w.heap.size + 1, 5, none⟩) HLT.out.2).trans b5; have a6 := ((dr.below W1.heap.size).cell (p := ⟨w.heap.size, 6, none⟩) HLT.out.1).trans a6; have b6 := ((dr.below W1.heap.size).cell (p := ⟨w.heap.size + 1, 6, none⟩) HLT.out.2).trans b6; have a7 := ((dr.below W1.heap.size).cell (p := ⟨w.heap.size, 7, none⟩) HLT.out.1).trans a7; have b7 := ((dr.below W1.heap.size).cell (p := ⟨w.heap.size + 1, 7, none⟩) HLT.out.2).trans b7; clear hE dr; cases r
  ·have HN := jh (show (⟨op, args, first, count, attr, cmp, txt, num⟩ : yAG) ≠ ⟨op, args2, first2, count2, attr2, cmp2, txt2, num2⟩ from fun e => by injection e with hop hargs hfirst hcount hattr hcmp htxt hnum; exact Bool.noConfusion (hr.2 hargs)); clear hr; go_wp2_with fail; go_ret; exact ⟨false, rfl, ⟨(fun e => by cases e), fun e => absurd e HN.out⟩, HBE.out⟩
  ·have hq := hr.1 rfl; subst hq; clear hr; by_cases hfirst : first = first2
   ·subst hfirst; by_cases hcount : count = count2
    ·subst hcount; by_cases hattr : attr = attr2
     ·subst hattr; by_cases hcmp : cmp = cmp2
      ·subst hcmp; by_cases htxt : txt = txt2
       ·subst htxt; by_cases hnum : num = num2
        ·subst hnum; go_wp2_with fail; go_ret
         first | exact ⟨true, rfl, ⟨(fun _ => rfl), fun _ => rfl⟩, HBE.out⟩ | exact ⟨rfl, HBE.out⟩
        ·have HN := jh (show (⟨op, args, first, count, attr, cmp, txt, num⟩ : yAG) ≠ ⟨op, args, first, count, attr, cmp, txt, num2⟩ from fun e => by injection e with hop hargs hfirst hcount hattr hcmp htxt hnum_; exact hnum hnum_); have q1 : (num == num2) = false := jn.2 hnum; clear hnum; go_wp2_with fail; go_ret; exact ⟨false, rfl, ⟨(fun e => by cases e), fun e => absurd e HN.out⟩, HBE.out⟩
       ·have HN := jh (show (⟨op, args, first, count, attr, cmp, txt, num⟩ : yAG) ≠ ⟨op, args, first, count, attr, cmp, txt2, num2⟩ from fun e => by injection e with hop hargs hfirst hcount hattr hcmp htxt_ hnum; exact htxt htxt_); have q3 : ¬ txt.toList = txt2.toList := fun e => htxt (toList_inj e)
        have q2 : (txt.toList == txt2.toList) = false := jn.2 q3; clear htxt; go_wp2_with fail; go_ret; exact ⟨false, rfl, ⟨(fun e => by cases e), fun e => absurd e HN.out⟩, HBE.out⟩
      ·have HN := jh (show (⟨op, args, first, count, attr, cmp, txt, num⟩ : yAG) ≠ ⟨op, args, first, count, attr, cmp2, txt2, num2⟩ from fun e => by injection e with hop hargs hfirst hcount hattr hcmp_ htxt hnum; exact hcmp hcmp_); have q1 : (cmp == cmp2) = false := jn.2 hcmp; clear hcmp; go_wp2_with fail; go_ret; exact ⟨false, rfl, ⟨(fun e => by cases e), fun e => absurd e HN.out⟩, HBE.out⟩
     ·have HN := jh (show (⟨op, args, first, count, attr, cmp, txt, num⟩ : yAG) ≠ ⟨op, args, first, count, attr2, cmp2, txt2, num2⟩ from fun e => by injection e with hop hargs hfirst hcount hattr_ hcmp htxt hnum; exact hattr hattr_); have q3 : ¬ attr.toList = attr2.toList := fun e => hattr (toList_inj e)
      have q2 : (attr.toList == attr2.toList) = false := jn.2 q3; clear hattr; go_wp2_with fail; go_ret; exact ⟨false, rfl, ⟨(fun e => by cases e), fun e => absurd e HN.out⟩, HBE.out⟩
    ·have HN := jh (show (⟨op, args, first, count, attr, cmp, txt, num⟩ : yAG) ≠ ⟨op, args, first, count2, attr2, cmp2, txt2, num2⟩ from fun e => by injection e with hop hargs hfirst hcount_ hattr hcmp htxt hnum; exact hcount hcount_); have q1 : (count == count2) = false := jn.2 hcount; clear hcount; go_wp2_with fail; go_ret; exact ⟨false, rfl, ⟨(fun e => by cases e), fun e => absurd e HN.out⟩, HBE.out⟩
   ·have HN := jh (show (⟨op, args, first, count, attr, cmp, txt, num⟩ : yAG) ≠ ⟨op, args, first2, count2, attr2, cmp2, txt2, num2⟩ from fun e => by injection e with hop hargs hfirst_ hcount hattr hcmp htxt hnum; exact hfirst hfirst_); have q1 : (first == first2) = false := jn.2 hfirst; clear hfirst; go_wp2_with fail; go_ret; exact ⟨false, rfl, ⟨(fun e => by cases e), fun e => absurd e HN.out⟩, HBE.out⟩
 ·have HN := jh (show (⟨op, args, first, count, attr, cmp, txt, num⟩ : yAG) ≠ ⟨op2, args2, first2, count2, attr2, cmp2, txt2, num2⟩ from fun e => by injection e with hop_ hargs hfirst hcount hattr hcmp htxt hnum; exact hop hop_); have q1 : (op == op2) = false := jn.2 hop; clear hop; go_wp2_with fail; go_ret; exact ⟨false, rfl, ⟨(fun e => by cases e), fun e => absurd e HN.out⟩, HB.out⟩
end Go.Proofs.YtkhejkfjhddobaaGreatDoor
namespace Gim
open Go Go.RowKit
structure yAc where
 main : Int
 rows : List yCK
 preds : List yAG
end Gim
namespace Go.Proofs.YtkhejkfjhddobaaGreatDoor
open Go.RowKit Gim
theorem yKN (rs ss : List yCK) (a : Option Addr) (n cap : Nat) (a2 : Option Addr) (n2 cap2 : Nat) (w : World) (h : yA2 w rs a n cap) (h2 : yA2 w ss a2 n2 cap2) :
  Calls Tryz.prog 97 #[.slice a n cap, .slice a2 n2 cap2, .func (.func 94) #[] #[]] w fun e w' => ∃ b, e = .returned (.bool b) ∧ (b = true ↔ rs = ss) ∧ Below w.heap.size w w' := by
 have HR := jh h; have HR2 := jh h2; have hle := h.le; have hcm := h.cap_le; have hnb : n ≤ 9223372036854775807 := by unfold maxLen at hcm; omega
 have hle2 := h2.le; have hcm2 := h2.cap_le; have hmb : n2 ≤ 9223372036854775807 := by unfold maxLen at hcm2; omega
 have HL1 := jh h.len; have HL2 := jh h2.len; clear h h2 hle hcm hle2 hcm2; by_cases hnm : n = n2
 ·subst hnm; go_enter Tryz.func97, Tryz.ntmps97; go_wp2_with fail; go_loopw [17] (fun i wr => ∃ q : Nat, i = .int .i64 q ∧ q ≤ n ∧ Hid (rs.take q = ss.take q) ∧ Hid (Below w.heap.size w wr)) (fun i _ => n - (intOf i).toNat)
  case atStart => exact ⟨0, rfl, jz _, jh (by simp), jh (jf _ _)⟩
  case round =>
   obtain ⟨q, rfl, hq, HT, HB⟩ := hrel; by_cases hqn : q < n
   ·have hqn' : (q : Int) < n := by omega
    have hl1 : q < rs.length := by have := HL1.out; omega
    have hl2 : q < ss.length := by have := HL2.out; omega
    obtain ⟨r, hr⟩ : ∃ r, rs[q]? = some r := ⟨_, jk hl1⟩
    obtain ⟨s, hs⟩ : ∃ s, ss[q]? = some s := ⟨_, jk hl2⟩
    have HN := jh (yGP HT.out hr hs); obtain ⟨b, o, rfl, hk⟩ := (HR.out.below HB.out).fit q hqn; obtain ⟨b2, o2, rfl, hk2⟩ := (HR2.out.below HB.out).fit q hqn; have hR := hk q r hr; have hS := hk2 q s hs; clear hr hs hk hk2 hl1 hl2; obtain ⟨_, x0, x1, x2, p, n0, c0, x3, rdx⟩ := hR; have hbS : ∀ ob, Below wr.heap.size wr (wr.alloc ob) := fun ob => (jf _ _).alloc (jr _) _
    have hS2 := fun ob => hS.below (hbS ob)
    have hblt := hS.1; obtain ⟨_, y0, y1, y2, p2, n2', c2', y3, rdy⟩ := hS; have u0 := fun ob => ((hbS ob).cell (p := ⟨b2, o2 + q * 4, none⟩) hblt).trans y0
    have u1 := fun ob => ((hbS ob).cell (p := ⟨b2, o2 + q * 4 + 1, none⟩) hblt).trans y1
    have u2 := fun ob => ((hbS ob).cell (p := ⟨b2, o2 + q * 4 + 2, none⟩) hblt).trans y2
    have u3 := fun ob => ((hbS ob).cell (p := ⟨b2, o2 + q * 4 + 3, none⟩) hblt).trans y3
    have hb0 : Below wr.heap.size wr ((wr.alloc (.cells #[.int .i64 r.ax, .int .i64 r.ts, .string r.nm, .slice p n0 c0] 55)).alloc (.cells #[.int .i64 s.ax, .int .i64 s.ts, .string s.nm, .slice p2 n2' c2'] 55)) := ((jf _ _).alloc (jr _) _).alloc (by simp) _; have hx : ((wr.alloc (.cells #[.int .i64 r.ax, .int .i64 r.ts, .string r.nm, .slice p n0 c0] 55)).alloc (.cells #[.int .i64 s.ax, .int .i64 s.ts, .string s.nm, .slice p2 n2' c2'] 55)).heap[wr.heap.size]? = some (.cells #[.int .i64 r.ax, .int .i64 r.ts, .string r.nm, .slice p n0 c0] 55) := (heap_alloc_old _ _ (by simp)).trans (jw _ _); have hy : ((wr.alloc (.cells #[.int .i64 r.ax, .int .i64 r.ts, .string r.nm, .slice p n0 c0] 55)).alloc (.cells #[.int .i64 s.ax, .int .i64 s.ts, .string s.nm, .slice p2 n2' c2'] 55)).heap[wr.heap.size + 1]? = some (.cells #[.int .i64 s.ax, .int .i64 s.ts, .string s.nm, .slice p2 n2' c2'] 55) := by have := jw (wr.alloc (.cells #[.int .i64 r.ax, .int .i64 r.ts, .string r.nm, .slice p n0 c0] 55)) (.cells #[.int .i64 s.ax, .int .i64 s.ts, .string s.nm, .slice p2 n2' c2'] 55); rw [World.size_alloc] at this; exact this
    have RX := jh (rdx.below hb0); have RY := jh (rdy.below hb0); have HB2 := jh (HB.out.trans (hb0.mono HB.out.size)); clear hbS hS2 hblt hb0 rdx rdy; go_upto_region 7 with fail; obtain ⟨wA, hwA⟩ := je ((wr.alloc (.cells #[.int .i64 r.ax, .int .i64 r.ts, .string r.nm, .slice p n0 c0] 55)).alloc (.cells #[.int .i64 s.ax, .int .i64 s.ts, .string s.nm, .slice p2 n2' c2'] 55)); rw [hwA] at hx hy RX RY HB2 ⊢; clear hwA; have e0 := jc hx 0 rfl; have f0 := jc hy 0 rfl; have e1 := jc hx 1 rfl; have f1 := jc hy 1 rfl; have e2 := jc hx 2 rfl; have f2 := jc hy 2 rfl; have e3 := jc hx 3 rfl; have f3 := jc hy 3 rfl; have hC := yJr r.ax r.ts r.nm r.ps p n0 c0 s.ax s.ts s.nm s.ps p2 n2' c2' wA RX.out RY.out; clear hx hy x0 y0 u0 x1 y1 u1 x2 y2 u2 x3 y3 u3; go_wp2_with fail; refine hC.mono ?_; rintro e wB ⟨t, rfl, ht, bb⟩; have HB3 := jh (HB2.out.trans (bb.mono HB2.out.size)); have HE := jh ht; clear hC bb ht e0 f0 e1 f1 e2 f2 e3 f3; cases t
    ·have HF := jh (show rs ≠ ss from fun e => by have h1 := HN.out.1 (by rw [e]); exact Bool.noConfusion (HE.out.2 h1)); go_wp2_with fail; go_ret; exact ⟨false, rfl, ⟨(fun e => by cases e), fun e => absurd e HF.out⟩, HB3.out⟩
    ·have HT2 := jh (HN.out.2 (HE.out.1 rfl)); go_wp2_with fail; go_roundw
     case rel => exact ⟨q + 1, by go_num, by omega, HT2, HB3⟩
     case measure => simp [intOf]; omega
   ·obtain rfl : q = n := by omega
    have HE := jh (show rs = ss by have := HT.out; rw [jm (by rw [HL1.out]; exact jr _), jm (by rw [HL2.out]; exact jr _)] at this; exact this); go_wp2_with fail; go_ret; exact ⟨true, rfl, ⟨(fun _ => HE.out), fun _ => rfl⟩, HB.out⟩
 ·have hnm' : ((n : Int) != n2) = true := by simp; omega
  have HN := jh (show rs ≠ ss from fun e => hnm (by rw [← HL1.out, ← HL2.out, e])); clear hnm; go_enter Tryz.func97, Tryz.ntmps97; go_wp2_with fail; go_ret; exact ⟨false, rfl, ⟨(fun e => by cases e), fun e => absurd e HN.out⟩, jf _ _⟩
theorem yJg (rs ss : List yAG) (a : Option Addr) (n cap : Nat) (a2 : Option Addr) (n2 cap2 : Nat) (w : World) (h : yAR w rs a n cap) (h2 : yAR w ss a2 n2 cap2) :
  Calls Tryz.prog 98 #[.slice a n cap, .slice a2 n2 cap2, .func (.func 96) #[] #[]] w fun e w' => ∃ b, e = .returned (.bool b) ∧ (b = true ↔ rs = ss) ∧ Below w.heap.size w w' := by
 have HR := jh h; have HR2 := jh h2; have hle := h.le; have hcm := h.cap_le; have hnb : n ≤ 9223372036854775807 := by unfold maxLen at hcm; omega
 have hle2 := h2.le; have hcm2 := h2.cap_le; have hmb : n2 ≤ 9223372036854775807 := by unfold maxLen at hcm2; omega
 have HL1 := jh h.len; have HL2 := jh h2.len; clear h h2 hle hcm hle2 hcm2; by_cases hnm : n = n2
 ·subst hnm; go_enter Tryz.func98, Tryz.ntmps98; go_wp2_with fail; go_loopw [17] (fun i wr => ∃ q : Nat, i = .int .i64 q ∧ q ≤ n ∧ Hid (rs.take q = ss.take q) ∧ Hid (Below w.heap.size w wr)) (fun i _ => n - (intOf i).toNat)
  case atStart => exact ⟨0, rfl, jz _, jh (by simp), jh (jf _ _)⟩
  case round =>
   obtain ⟨q, rfl, hq, HT, HB⟩ := hrel; by_cases hqn : q < n
   ·have hqn' : (q : Int) < n := by omega
    have hl1 : q < rs.length := by have := HL1.out; omega
    have hl2 : q < ss.length := by have := HL2.out; omega
    obtain ⟨r, hr⟩ : ∃ r, rs[q]? = some r := ⟨_, jk hl1⟩
    obtain ⟨s, hs⟩ : ∃ s, ss[q]? = some s := ⟨_, jk hl2⟩
    have HN := jh (yGP HT.out hr hs); obtain ⟨b, o, rfl, hk⟩ := (HR.out.below HB.out).fit q hqn; obtain ⟨b2, o2, rfl, hk2⟩ := (HR2.out.below HB.out).fit q hqn; have hR := hk q r hr; have hS := hk2 q s hs; clear hr hs hk hk2 hl1 hl2; obtain ⟨_, x0, x2, x3, x4, x5, x6, x7, p, n0, c0, x1, rdx⟩ := hR; have hbS : ∀ ob, Below wr.heap.size wr (wr.alloc ob) := fun ob => (jf _ _).alloc (jr _) _
    have hS2 := fun ob => hS.below (hbS ob)
    have hblt := hS.1; obtain ⟨_, y0, y2, y3, y4, y5, y6, y7, p2, n2', c2', y1, rdy⟩ := hS; have u0 := fun ob => ((hbS ob).cell (p := ⟨b2, o2 + q * 8, none⟩) hblt).trans y0
    have u1 := fun ob => ((hbS ob).cell (p := ⟨b2, o2 + q * 8 + 1, none⟩) hblt).trans y1
    have u2 := fun ob => ((hbS ob).cell (p := ⟨b2, o2 + q * 8 + 2, none⟩) hblt).trans y2
    have u3 := fun ob => ((hbS ob).cell (p := ⟨b2, o2 + q * 8 + 3, none⟩) hblt).trans y3
    have u4 := fun ob => ((hbS ob).cell (p := ⟨b2, o2 + q * 8 + 4, none⟩) hblt).trans y4
    have u5 := fun ob => ((hbS ob).cell (p := ⟨b2, o2 + q * 8 + 5, none⟩) hblt).trans y5
    have u6 := fun ob => ((hbS ob).cell (p := ⟨b2, o2 + q * 8 + 6, none⟩) hblt).trans y6
    have u7 := fun ob => ((hbS ob).cell (p := ⟨b2, o2 + q * 8 + 7, none⟩) hblt).trans y7
    have hb0 : Below wr.heap.size wr ((wr.alloc (.cells #[.int .i64 r.op, .slice p n0 c0, .int .i64 r.first, .int .i64 r.count, .string r.attr, .int .i64 r.cmp, .string r.txt, .int .i64 r.num] 59)).alloc (.cells #[.int .i64 s.op, .slice p2 n2' c2', .int .i64 s.first, .int .i64 s.count, .string s.attr, .int .i64 s.cmp, .string s.txt, .int .i64 s.num] 59)) := ((jf _ _).alloc (jr _) _).alloc (by simp) _; have hx : ((wr.alloc (.cells #[.int .i64 r.op, .slice p n0 c0, .int .i64 r.first, .int .i64 r.count, .string r.attr, .int .i64 r.cmp, .string r.txt, .int .i64 r.num] 59)).alloc (.cells #[.int .i64 s.op, .slice p2 n2' c2', .int .i64 s.first, .int .i64 s.count, .string s.attr, .int .i64 s.cmp, .string s.txt, .int .i64 s.num] 59)).heap[wr.heap.size]? = some (.cells #[.int .i64 r.op, .slice p n0 c0, .int .i64 r.first, .int .i64 r.count, .string r.attr, .int .i64 r.cmp, .string r.txt, .int .i64 r.num] 59) := (heap_alloc_old _ _ (by simp)).trans (jw _ _); have hy : ((wr.alloc (.cells #[.int .i64 r.op, .slice p n0 c0, .int .i64 r.first, .int .i64 r.count, .string r.attr, .int .i64 r.cmp, .string r.txt, .int .i64 r.num] 59)).alloc (.cells #[.int .i64 s.op, .slice p2 n2' c2', .int .i64 s.first, .int .i64 s.count, .string s.attr, .int .i64 s.cmp, .string s.txt, .int .i64 s.num] 59)).heap[wr.heap.size + 1]? = some (.cells #[.int .i64 s.op, .slice p2 n2' c2', .int .i64 s.first, .int .i64 s.count, .string s.attr, .int .i64 s.cmp, .string s.txt, .int .i64 s.num] 59) := by have := jw (wr.alloc (.cells #[.int .i64 r.op, .slice p n0 c0, .int .i64 r.first, .int .i64 r.count, .string r.attr, .int .i64 r.cmp, .string r.txt, .int .i64 r.num] 59)) (.cells #[.int .i64 s.op, .slice p2 n2' c2', .int .i64 s.first, .int .i64 s.count, .string s.attr, .int .i64 s.cmp, .string s.txt, .int .i64 s.num] 59); rw [World.size_alloc] at this; exact this
    have RX := jh (rdx.below hb0); have RY := jh (rdy.below hb0); have HB2 := jh (HB.out.trans (hb0.mono HB.out.size)); clear hbS hS2 hblt hb0 rdx rdy; go_upto_region 7 with fail; obtain ⟨wA, hwA⟩ := je ((wr.alloc (.cells #[.int .i64 r.op, .slice p n0 c0, .int .i64 r.first, .int .i64 r.count, .string r.attr, .int .i64 r.cmp, .string r.txt, .int .i64 r.num] 59)).alloc (.cells #[.int .i64 s.op, .slice p2 n2' c2', .int .i64 s.first, .int .i64 s.count, .string s.attr, .int .i64 s.cmp, .string s.txt, .int .i64 s.num] 59)); rw [hwA] at hx hy RX RY HB2 ⊢; clear hwA; have e0 := jc hx 0 rfl; have f0 := jc hy 0 rfl; have e1 := jc hx 1 rfl; have f1 := jc hy 1 rfl; have e2 := jc hx 2 rfl; have f2 := jc hy 2 rfl; have e3 := jc hx 3 rfl; have f3 := jc hy 3 rfl; have e4 := jc hx 4 rfl; have f4 := jc hy 4 rfl; have e5 := jc hx 5 rfl; have f5 := jc hy 5 rfl; have e6 := jc hx 6 rfl; have f6 := jc hy 6 rfl; have e7 := jc hx 7 rfl; have f7 := jc hy 7 rfl; have hC := yIV r.op r.args r.first r.count r.attr r.cmp r.txt r.num p n0 c0 s.op s.args s.first s.count s.attr s.cmp s.txt s.num p2 n2' c2' wA RX.out RY.out; clear hx hy x0 y0 u0 x1 y1 u1 x2 y2 u2 x3 y3 u3 x4 y4 u4 x5 y5 u5 x6 y6 u6 x7 y7 u7; go_wp2_with fail; refine hC.mono ?_; rintro e wB ⟨t, rfl, ht, bb⟩; have HB3 := jh (HB2.out.trans (bb.mono HB2.out.size)); have HE := jh ht; clear hC bb ht e0 f0 e1 f1 e2 f2 e3 f3 e4 f4 e5 f5 e6 f6 e7 f7; cases t
    ·have HF := jh (show rs ≠ ss from fun e => by have h1 := HN.out.1 (by rw [e]); exact Bool.noConfusion (HE.out.2 h1)); go_wp2_with fail; go_ret; exact ⟨false, rfl, ⟨(fun e => by cases e), fun e => absurd e HF.out⟩, HB3.out⟩
    ·have HT2 := jh (HN.out.2 (HE.out.1 rfl)); go_wp2_with fail; go_roundw
     case rel => exact ⟨q + 1, by go_num, by omega, HT2, HB3⟩
     case measure => simp [intOf]; omega
   ·obtain rfl : q = n := by omega
    have HE := jh (show rs = ss by have := HT.out; rw [jm (by rw [HL1.out]; exact jr _), jm (by rw [HL2.out]; exact jr _)] at this; exact this); go_wp2_with fail; go_ret; exact ⟨true, rfl, ⟨(fun _ => HE.out), fun _ => rfl⟩, HB.out⟩
 ·have hnm' : ((n : Int) != n2) = true := by simp; omega
  have HN := jh (show rs ≠ ss from fun e => hnm (by rw [← HL1.out, ← HL2.out, e])); clear hnm; go_enter Tryz.func98, Tryz.ntmps98; go_wp2_with fail; go_ret; exact ⟨false, rfl, ⟨(fun e => by cases e), fun e => absurd e HN.out⟩, jf _ _⟩
theorem yJh (m : Int) (rows : List yCK) (preds : List yAG) (ra : Option Addr) (rn rc : Nat) (pa : Option Addr) (pn pc : Nat) (m2 : Int) (rows2 : List yCK) (preds2 : List yAG) (ra2 : Option Addr) (rn2 rc2 : Nat) (pa2 : Option Addr) (pn2 pc2 : Nat) (w : World)
  (h1 : yA2 w rows ra rn rc) (h2 : yAR w preds pa pn pc) (h3 : yA2 w rows2 ra2 rn2 rc2) (h4 : yAR w preds2 pa2 pn2 pc2) :
  Calls Tryz.prog 62 #[.agg #[.int .i64 m, .slice ra rn rc, .slice pa pn pc], .agg #[.int .i64 m2, .slice ra2 rn2 rc2, .slice pa2 pn2 pc2]] w fun e w' => ∃ b, e = .returned (.bool b) ∧ (b = true ↔ (⟨m, rows, preds⟩ : yAc) = ⟨m2, rows2, preds2⟩) ∧ Below w.heap.size w w' := by
 have hb0 : Below w.heap.size w ((w.alloc (.cells #[.int .i64 m, .slice ra rn rc, .slice pa pn pc] 36)).alloc (.cells #[.int .i64 m2, .slice ra2 rn2 rc2, .slice pa2 pn2 pc2] 36)) := ((jf _ _).alloc (jr _) _).alloc (by simp) _; have hx : ((w.alloc (.cells #[.int .i64 m, .slice ra rn rc, .slice pa pn pc] 36)).alloc (.cells #[.int .i64 m2, .slice ra2 rn2 rc2, .slice pa2 pn2 pc2] 36)).heap[w.heap.size]? = some (.cells #[.int .i64 m, .slice ra rn rc, .slice pa pn pc] 36) := (heap_alloc_old _ _ (by simp)).trans (jw _ _); have hy : ((w.alloc (.cells #[.int .i64 m, .slice ra rn rc, .slice pa pn pc] 36)).alloc (.cells #[.int .i64 m2, .slice ra2 rn2 rc2, .slice pa2 pn2 pc2] 36)).heap[w.heap.size + 1]? = some (.cells #[.int .i64 m2, .slice ra2 rn2 rc2, .slice pa2 pn2 pc2] 36) := by have := jw (w.alloc (.cells #[.int .i64 m, .slice ra rn rc, .slice pa pn pc] 36)) (.cells #[.int .i64 m2, .slice ra2 rn2 rc2, .slice pa2 pn2 pc2] 36); rw [World.size_alloc] at this; exact this
 have H1 := jh (h1.below hb0); have H2 := jh (h2.below hb0); have H3 := jh (h3.below hb0); have H4 := jh (h4.below hb0); have HB := jh hb0; obtain ⟨W1, hW1⟩ := je ((w.alloc (.cells #[.int .i64 m, .slice ra rn rc, .slice pa pn pc] 36)).alloc (.cells #[.int .i64 m2, .slice ra2 rn2 rc2, .slice pa2 pn2 pc2] 36)); rw [hW1] at hx hy H1 H2 H3 H4 HB; have HX := jh hx; have HY := jh hy; have a0 := jc hx 0 rfl; have a1 := jc hx 1 rfl; have a2 := jc hx 2 rfl; have b0 := jc hy 0 rfl; have b1 := jc hy 1 rfl; have b2 := jc hy 2 rfl; have hC := yKN rows rows2 ra rn rc ra2 rn2 rc2 W1 H1.out H3.out; clear hb0 hx hy h1 h2 h3 h4; go_enter Tryz.func62, Tryz.ntmps62; go_upto_region 3 with fail
 try rw [hW1]
 clear hW1; obtain ⟨S0, hS0⟩ : ∃ S0, Hid (w.heap.size = S0) := ⟨_, jh rfl⟩
 rw [hS0.out] at a0 a1 a2 b0 b1 b2 HX HY ⊢; by_cases hm : m = m2
 ·subst hm; go_wp2_with fail; refine hC.mono ?_; rintro e w2 ⟨t, rfl, ht, bb⟩; have HT := jh ht; have HB2 := jh (HB.out.trans (bb.mono HB.out.size)); have HLow := jh bb; have hx2 := (bb.block _ (jl HX.out)).trans HX.out; have hy2 := (bb.block _ (jl HY.out)).trans HY.out; clear hC ht bb a0 a1 a2 b0 b1 b2; cases t
  ·have HN := jh (show (⟨m, rows, preds⟩ : yAc) ≠ ⟨m, rows2, preds2⟩ from fun e => by injection e with e1 e2 e3; exact Bool.noConfusion (HT.out.2 e2)); clear hx2 hy2; go_wp2_with fail; go_ret; exact ⟨false, rfl, ⟨(fun e => by cases e), fun e => absurd e HN.out⟩, HB2.out⟩
  ·have hr := HT.out.1 rfl; subst hr; have a2 := jc hx2 2 rfl; have b2 := jc hy2 2 rfl; have hC := yJg preds preds2 pa pn pc pa2 pn2 pc2 w2 (H2.out.below HLow.out) (H4.out.below HLow.out); clear hx2 hy2; go_wp2_with fail; refine hC.mono ?_; rintro e w3 ⟨t, rfl, ht, bb⟩; have HT3 := jh ht; have HB3 := jh (HB2.out.trans (bb.mono HB2.out.size)); clear hC ht bb a2 b2; cases t
   ·have HN := jh (show (⟨m, rows, preds⟩ : yAc) ≠ ⟨m, rows, preds2⟩ from fun e => by injection e with e1 e2 e3; exact Bool.noConfusion (HT3.out.2 e3)); go_wp2_with fail; go_ret; exact ⟨false, rfl, ⟨(fun e => by cases e), fun e => absurd e HN.out⟩, HB3.out⟩
   ·have hr := HT3.out.1 rfl; subst hr; go_wp2_with fail; go_ret
    first | exact ⟨true, rfl, ⟨(fun _ => rfl), fun _ => rfl⟩, HB3.out⟩ | exact ⟨rfl, HB3.out⟩
 ·have hm' : (m == m2) = false := jn.2 hm; have HN := jh (show (⟨m, rows, preds⟩ : yAc) ≠ ⟨m2, rows2, preds2⟩ from fun e => by injection e with e1 e2 e3; exact hm e1); clear hm hC; go_wp2_with fail; go_ret; exact ⟨false, rfl, ⟨(fun e => by cases e), fun e => absurd e HN.out⟩, HB.out⟩
end Go.Proofs.YtkhejkfjhddobaaGreatDoor
