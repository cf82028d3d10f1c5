/- gimletlaw14.spoil: it writes over a formula's own memory alone. -/
import Derived.Test.YtmdanfeilgeoaaaKSParts
import Derived.Deep.AppendLies
import Derived.Deep.RegionHeld3
import Derived.Deep.RegionLaw
import Derived.RegionTactic
import Derived.BigRegion
namespace Gim
open Go Go.RowKit
/-- what spoil may write: blocks from lo to hi, new ones, and four cells of block B -/
structure Spl (lo hi B o : Nat) (W W2 : World) : Prop where
  os : W2.os = W.os
  tape : W2.tape = W.tape
  output : W2.output = W.output
  size : W.heap.size ≤ W2.heap.size
  out : ∀ j, j < W.heap.size → (j < lo ∨ hi ≤ j) → j ≠ B → W2.heap[j]? = W.heap[j]?
  box : ∀ cur t, W.heap[B]? = some (.cells cur t (0, 0)) → ∃ cur' : Array Value, W2.heap[B]? = some (.cells cur' t (0, 0)) ∧ cur'.size = cur.size ∧ ∀ i, (i < o ∨ o + 4 ≤ i) → cur'[i]? = cur[i]?
theorem Spl.refl (lo hi B o : Nat) (W : World) : Spl lo hi B o W W := ⟨rfl, rfl, rfl, Nat.le_refl _, fun _ _ _ _ => rfl, fun cur _ h => ⟨cur, h, rfl, fun _ _ => rfl⟩⟩
theorem Spl.trans {lo hi B o : Nat} {W W2 W3 : World} (h : Spl lo hi B o W W2) (k : Spl lo hi B o W2 W3) : Spl lo hi B o W W3 :=
  ⟨k.os.trans h.os, k.tape.trans h.tape, k.output.trans h.output, Nat.le_trans h.size k.size, fun j h1 h2 h3 => (k.out j (Nat.lt_of_lt_of_le h1 h.size) h2 h3).trans (h.out j h1 h2 h3), fun cur t hb => by
    obtain ⟨c2, e1, e2, e3⟩ := h.box cur t hb
    obtain ⟨c3, e4, e5, e6⟩ := k.box c2 t e1
    exact ⟨c3, e4, e5.trans e2, fun i hi => (e6 i hi).trans (e3 i hi)⟩⟩
/-- one of the four cells is written -/
theorem Spl.own {lo hi B o m : Nat} {W W2 : World} (h : Spl lo hi B o W W2) (hm : m < 4) (v : Value) : Spl lo hi B o W (W2.setCell ⟨B, o + m, none⟩ v) :=
  ⟨h.os, h.tape, h.output, by have := h.size; simp [World.setCell]; omega, fun j h1 h2 h3 => (by
    rw [← h.out j h1 h2 h3]
    simp only [World.setCell, Array.getElem?_modify]
    rw [if_neg (fun e => h3 e.symm)]), fun cur t hb => by
    obtain ⟨c2, e1, e2, e3⟩ := h.box cur t hb
    refine ⟨_, Go.Joins.block_setCell e1 (i := o + m) v, by simpa using e2, fun i hi => ?_⟩
    rw [Array.getElem?_setIfInBounds, if_neg (by omega)]
    exact e3 i hi⟩
/-- a cell of a block of the call's own is written -/
theorem Spl.inner {lo hi B o g i : Nat} {W W2 : World} (h : Spl lo hi B o W W2) (hg : lo ≤ g ∧ g < hi ∨ W.heap.size ≤ g) (hB : g ≠ B) (v : Value) : Spl lo hi B o W (W2.setCell ⟨g, i, none⟩ v) :=
  ⟨h.os, h.tape, h.output, by have := h.size; simp [World.setCell]; omega, fun j h1 h2 h3 => (by
    rw [← h.out j h1 h2 h3]
    simp only [World.setCell, Array.getElem?_modify]
    rw [if_neg (by omega)]), fun cur t hb => by
    obtain ⟨c2, e1, e2, e3⟩ := h.box cur t hb
    refine ⟨c2, ?_, e2, e3⟩
    rw [← e1]
    simp only [World.setCell, Array.getElem?_modify]
    rw [if_neg hB]⟩
theorem Spl.grown {lo hi B o : Nat} {W W2 W3 : World} {g : Option Nat} (h : Spl lo hi B o W W2) (k : W2.grownBy W3 g) (hB : B < W.heap.size) (hg : ∀ j, g = some j → (lo ≤ j ∧ j < hi ∨ W.heap.size ≤ j) ∧ j ≠ B) : Spl lo hi B o W W3 :=
  ⟨k.os.trans h.os, k.tape.trans h.tape, k.output.trans h.output, Nat.le_trans h.size k.size, fun j h1 h2 h3 => (k.block j (Nat.lt_of_lt_of_le h1 h.size) (fun e => by have := hg j e.symm; omega)).trans (h.out j h1 h2 h3), fun cur t hb => by
    obtain ⟨c2, e1, e2, e3⟩ := h.box cur t hb
    exact ⟨c2, (k.block B (Nat.lt_of_lt_of_le hB h.size) (fun e => by have := hg B e.symm; omega)).trans e1, e2, e3⟩⟩
theorem Spl.drew {lo hi B o : Nat} {W W2 : World} (h : Spl lo hi B o W W2) : Spl lo hi B o W W2.drew := ⟨h.os, h.tape, h.output, h.size, h.out, h.box⟩
theorem cell_far {W : World} {g B i j : Nat} {v : Value} (h : g ≠ B) : (W.setCell ⟨g, i, none⟩ v).cell? ⟨B, j, none⟩ = W.cell? ⟨B, j, none⟩ := by
  have := Below.heap_setCell W ⟨g, i, none⟩ v B (fun e => h e.symm)
  simp only [World.cell?, this]
theorem cell_own1 {W : World} {B i j : Nat} {v : Value} (h : i ≠ j) : (W.setCell ⟨B, i, none⟩ v).cell? ⟨B, j, none⟩ = W.cell? ⟨B, j, none⟩ := by
  simp only [World.cell?, World.setCell, Array.getElem?_modify]
  rcases hb : W.heap[B]? with _ | ob
  · rfl
  · cases ob <;> simp [h]
theorem cell_own2 {W : World} {B i : Nat} {v : Value} (h : (W.cell? ⟨B, i, none⟩).isSome = true) : (W.setCell ⟨B, i, none⟩ v).cell? ⟨B, i, none⟩ = some v := by
  simp only [World.cell?, World.setCell, Array.getElem?_modify] at h ⊢
  rcases hb : W.heap[B]? with _ | ob
  · rw [hb] at h
    cases h
  · rw [hb] at h
    cases ob <;> simp_all
/-- a part's own writing, seen from the whole -/
theorem Spl.part {lo hi B o l2 h2 b o2 : Nat} {W W2 W3 : World} (h : Spl lo hi B o W W2) (k : Spl l2 h2 b o2 W2 W3) (h1 : lo ≤ l2) (hh : h2 ≤ hi) (hb : lo ≤ b ∧ b < hi) (hB : B < lo ∨ hi ≤ B) (hBs : B < W.heap.size) : Spl lo hi B o W W3 :=
  ⟨k.os.trans h.os, k.tape.trans h.tape, k.output.trans h.output, Nat.le_trans h.size k.size, fun j j1 j2 j3 => (k.out j (Nat.lt_of_lt_of_le j1 h.size) (by omega) (by omega)).trans (h.out j j1 j2 j3), fun cur t hb2 => by
    obtain ⟨c2, e1, e2, e3⟩ := h.box cur t hb2
    exact ⟨c2, (k.out B (Nat.lt_of_lt_of_le hBs h.size) (by omega) (by omega)).trans e1, e2, e3⟩⟩
theorem Spl.keeps {lo hi B o l2 h2 : Nat} {W W2 : World} (h : Spl lo hi B o W W2) (ht : h2 ≤ W.heap.size) (hd : h2 ≤ lo ∨ hi ≤ l2) (hB : B < l2 ∨ h2 ≤ B) : Keeps l2 h2 W W2 :=
  ⟨h.size, fun j a b => h.out j (by omega) (by omega) (by omega)⟩
end Gim
namespace Gim
open Go Go.RowKit
theorem FitR.lie {lo hi : Nat} {W : World} {gs : List Fm} {a : Option Addr} {n cap : Nat} (h : FitR lo hi W gs a n cap) : ∃ zs : List Z, zs.map Z.f = gs ∧ zs.length = n ∧ (∀ z, z ∈ zs → SepF W z.f z.c z.lo z.hi ∧ lo ≤ z.lo ∧ z.hi ≤ hi ∧ ∀ b, a = some ⟨b, 0, none⟩ → b < z.lo ∨ z.hi ≤ b) ∧ zs.Pairwise Z.off ∧ ((a = none ∧ n = 0 ∧ cap = 0) ∨ ∃ b, a = some ⟨b, 0, none⟩ ∧ lo ≤ b ∧ b < hi ∧ Rw 26 W b cap (zs.map Z.c)) := by
  have hs := h.sep
  unfold SepF at hs
  obtain ⟨_, _, _, h4, h5⟩ := hs
  have h4' : gs.length = n := h4
  rcases h5 with ⟨e1, e2, e3⟩ | ⟨b, cs, is, e, hl, hh, hr, hL, hs, hp⟩
  · have e2' : n = 0 := e2
    have hg : gs = [] := List.eq_nil_of_length_eq_zero (by omega)
    exact ⟨[], by rw [hg]; rfl, by rw [e2']; rfl, (fun z hz => by cases hz), List.Pairwise.nil, .inl ⟨e1, e2, e3⟩⟩
  · obtain ⟨zs, h1, h2, h3, h6⟩ := hL.zs
    refine ⟨zs, h2, by rw [← h4', ← h2]; simp, fun z hz => ?_, ?_, .inr ⟨b, e, hl, hh, ?_⟩⟩
    · obtain ⟨m1, m2, m3⟩ := hs (z.lo, z.hi) (by rw [← h3]; exact List.mem_map.2 ⟨z, hz, rfl⟩)
      refine ⟨h6 z hz, m1, m2, fun b2 hb2 => ?_⟩
      have e' : a = some ⟨b, 0, none⟩ := e
      rw [e'] at hb2
      cases hb2
      exact m3
    · rw [← h3] at hp
      exact (List.pairwise_map (f := fun z : Z => (z.lo, z.hi)) (R := Off)).1 hp
    · rw [h1]
      exact hr
theorem set2_at (cur : Array Value) (o : Nat) (p q : Value) (h : o + 3 < cur.size) : ((cur.setIfInBounds (o + 2) p).setIfInBounds (o + 1) q)[o + 0]? = cur[o + 0]? ∧ ((cur.setIfInBounds (o + 2) p).setIfInBounds (o + 1) q)[o + 1]? = some q ∧ ((cur.setIfInBounds (o + 2) p).setIfInBounds (o + 1) q)[o + 2]? = some p ∧ ((cur.setIfInBounds (o + 2) p).setIfInBounds (o + 1) q)[o + 3]? = cur[o + 3]? := by
  have h1 : o + 1 < cur.size := by omega
  have h2 : o + 2 < cur.size := by omega
  refine ⟨?_, ?_, ?_, ?_⟩ <;> simp [h1, h2]
/-- element q has been written over: its four cells are a formula's four cells again -/
theorem Rw.put4 {t : TypeId} {W W2 : World} {b cap q l2 h2 : Nat} {cs : List N4} (h : Rw t W b cap cs) (k : Spl l2 h2 b (q * 4) W W2) (c' : N4) (hq : q < cs.length) (hc : ∀ m u, m < 4 → (cell4 c')[m]? = some u → W2.cell? ⟨b, q * 4 + m, none⟩ = some u) : Rw t W2 b cap (cs.set q c') := by
  obtain ⟨cur, h1, h2, h3, h4, h5⟩ := h
  obtain ⟨cur', k1, k2, k3⟩ := k.box cur t h1
  refine ⟨cur', k1, by rw [List.length_set]; exact h2, h3, by rw [k2, h4], fun i c m u hi hm hu => ?_⟩
  by_cases hiq : i = q
  · subst hiq
    rw [List.getElem?_set_self hq] at hi
    cases hi
    have := hc m u hm hu
    simp only [World.cell?, k1] at this
    exact this
  · rw [List.getElem?_set_ne (fun e => hiq e.symm)] at hi
    rw [k3 _ (by omega)]
    exact h5 i c m u hi hm hu
end Gim
namespace Go.Proofs.Ytmdanfeilgeoaaa
open Go.RowKit Gim Go.Sort Go.Lib
set_option maxRecDepth 100000 in
set_option maxHeartbeats 8000000 in
theorem spoil_calls : ∀ (k : Nat) (op v x : Int) (gs : List Fm) (a : Option Addr) (n cap : Nat) (mark : Int) (B o lo hi : Nat) (t : TypeId) (cur : Array Value) (w : World), SizeOf.sizeOf (Fm.mk op v x gs) ≤ k → FitR lo hi w gs a n cap → szF (.mk op v x gs) ≤ 549755813888 → (B < lo ∨ hi ≤ B) → w.heap[B]? = some (.cells cur t (0, 0)) → (∀ m u, m < 4 → (cell4 (op, v, x, (a, n, cap)))[m]? = some u → w.cell? ⟨B, o + m, none⟩ = some u) →
    Calls Try.prog 23 #[.pointer (some ⟨B, o, none⟩), .int .i64 mark] w fun e w' => e = .returned (.tuple #[]) ∧ Spl lo hi B o w w' ∧ ∃ c' : N4, ∀ m u, m < 4 → (cell4 c')[m]? = some u → w'.cell? ⟨B, o + m, none⟩ = some u := by
  intro k
  induction k with
  | zero => intro op v x gs a n cap mark B o lo hi t cur w hk; exact absurd hk (by simp)
  | succ k ih =>
  intro op v x gs a n cap mark B o lo hi t cur w hk hF hsz hB hbx hcl
  have c0 := hcl 0 _ (by omega) rfl
  have c1 := hcl 1 _ (by omega) rfl
  have c2 := hcl 2 _ (by omega) rfl
  have c3 := hcl 3 _ (by omega) rfl
  simp only [Nat.add_zero] at c0
  have f1 : w.frozen? ⟨B, o + 1, none⟩ = false := by simp [World.frozen?, hbx]
  have f2 : w.frozen? ⟨B, o + 2, none⟩ = false := by simp [World.frozen?, hbx]
  have HK := Lib.hid hk
  have IH := Lib.hid ih
  have HF := Lib.hid hF
  have HSZ := Lib.hid hsz
  have HB := Lib.hid hB
  have HBX := Lib.hid hbx
  have HCL := Lib.hid hcl
  have hnb : n ≤ 9223372036854775807 := by have h1 := hF.here.le; have h2 := hF.here.cap_le; unfold maxLen at h2; omega
  clear hk ih hF hsz hB hbx hcl
  go_enter Try.func23, Try.ntmps23
  go_upto_region 2 with fail
  obtain ⟨w1, hw1⟩ : ∃ w1, (w.setCell ⟨B, o + 2, none⟩ (.int .i64 (wrap64 (x + mark)))).setCell ⟨B, o + 1, none⟩ (.int .i64 9) = w1 := ⟨_, rfl⟩
  have hs1 : Spl lo hi B o w w1 := by
    rw [← hw1]
    exact ((Spl.refl lo hi B o w).own (by omega) _).own (by omega) _
  have hb1 : w1.heap[B]? = some (.cells ((cur.setIfInBounds (o + 2) (.int .i64 (wrap64 (x + mark)))).setIfInBounds (o + 1) (.int .i64 9)) t (0, 0)) := by
    rw [← hw1]
    exact Go.Joins.block_setCell (Go.Joins.block_setCell HBX.out (i := o + 2) _) (i := o + 1) _
  have hcur : ∀ m u, m < 4 → (cell4 (op, v, x, (a, n, cap)))[m]? = some u → cur[o + m]? = some u := fun m u hm hu => by
    have := HCL.out m u hm hu
    simp only [World.cell?, HBX.out] at this
    exact this
  have hbn : ∀ m u, m < 4 → (cell4 (op, 9, wrap64 (x + mark), (a, n, cap)))[m]? = some u → w1.cell? ⟨B, o + m, none⟩ = some u := fun m u hm hu => by
    simp only [World.cell?, hb1]
    have h0 := hcur 0 _ (by omega) rfl
    have h3 := hcur 3 _ (by omega) rfl
    obtain ⟨g0, g1, g2, g3⟩ := set2_at cur o (.int .i64 (wrap64 (x + mark))) (.int .i64 9) (Array.getElem?_eq_some_iff.1 h3).1
    match m, hm, hu with
    | 0, _, hu => cases hu; exact g0.trans h0
    | 1, _, hu => cases hu; exact g1
    | 2, _, hu => cases hu; exact g2
    | 3, _, hu => cases hu; exact g3.trans h3
  rw [hw1]
  have HS1 := Lib.hid hs1
  have HB1 := Lib.hid hb1
  have HN1 := Lib.hid hbn
  have hg1 : w.grownBy w1 (some B) := by
    rw [← hw1]
    exact World.grownBy.trans (grownBy_setAt _ _ _ _) (grownBy_setAt _ _ _ _)
  have HF1 := Lib.hid (HF.out.keeps (Keeps.of_grown hg1 HF.out.top (fun j e => by cases e; exact HB.out)))
  clear hg1
  obtain ⟨zs, hzf, hzn, hzs, hzo, hlie⟩ := HF1.out.lie
  have hrow : Row4 w1 0 (.slice a n cap) (zs.map Z.c) := by
    rcases hlie with ⟨e1, e2, e3⟩ | ⟨b, e, hl, hh, hr⟩
    · subst e1 e2 e3
      have : zs = [] := List.eq_nil_of_length_eq_zero hzn
      subst this
      exact Row4.nil _ _
    · subst e
      have := row4_of_rw (Nat.zero_le _) hr
      rw [List.length_map, hzn] at this
      exact this
  have hab : ∀ b, a = some ⟨b, 0, none⟩ → lo ≤ b ∧ b < hi := fun b hb => by
    rcases hlie with ⟨e1, _⟩ | ⟨b2, e, hl, hh, _⟩
    · rw [e1] at hb; cases hb
    · rw [e] at hb
      cases hb
      exact ⟨hl, hh⟩
  have HROW := Lib.hid hrow
  have HAB := Lib.hid hab
  have HZF := Lib.hid hzf
  have HZN := Lib.hid hzn
  have HZS := Lib.hid hzs
  have HZO := Lib.hid hzo
  have d3 := HN1.out 3 _ (by omega) rfl
  clear hrow hab hzf hzn hzs hzo hlie hs1 hb1 hbn hcur hw1 c0 c1 c2 c3 f1 f2
  go_wp2_with fail
  go_loopw [21] (fun i wr => ∃ (q : Nat), i = .int .i64 q ∧ q ≤ n ∧ Hid (Spl lo hi B o w wr ∧ (∀ m u, m < 4 → (cell4 (op, 9, wrap64 (x + mark), (a, n, cap)))[m]? = some u → wr.cell? ⟨B, o + m, none⟩ = some u) ∧ (∃ cs, Row4 wr 0 (.slice a n cap) cs ∧ cs.length = n ∧ ∀ i, q ≤ i → cs[i]? = (zs.map Z.c)[i]?) ∧ ∀ i z, q ≤ i → zs[i]? = some z → SepF wr z.f z.c z.lo z.hi)) (fun i _ => n - (RowKit.intOf i).toNat)
  case atStart => exact ⟨0, rfl, Nat.zero_le _, Lib.hid ⟨HS1.out, HN1.out, ⟨_, HROW.out, by simp [HZN.out], fun _ _ => rfl⟩, fun i z _ hz => (HZS.out z (List.mem_of_getElem? hz)).1⟩⟩
  case round =>
    obtain ⟨q, rfl, hq, HM⟩ := hrel
    obtain ⟨hS, hC, ⟨cs, hR, hln, hrest⟩, hsep⟩ := HM.out
    have e3 := hC 3 _ (by omega) rfl
    by_cases hqn : q < n
    · have hqn' : (q : Int) < n := by omega
      have hq0 : (0 : Int) ≤ q := by omega
      rcases row4_cases hR with ⟨hv, he⟩ | ⟨b, cap2, hv, hbl, hRw⟩
      · subst he
        simp at hln
        omega
      · cases hv
        obtain ⟨hb1, hb2⟩ := HAB.out b rfl
        obtain ⟨z, hz⟩ : ∃ z, zs[q]? = some z := ⟨_, List.getElem?_eq_getElem (by have := HZN.out; omega)⟩
        obtain ⟨_, hz1, hz2, hz3⟩ := HZS.out z (List.mem_of_getElem? hz)
        have hsz := hsep q z (Nat.le_refl _) hz
        have hhi : hi ≤ wr.heap.size := Nat.le_trans HF.out.top hS.size
        obtain ⟨gs2, hzfe, hF2⟩ := hsz.fitR (Nat.le_trans hz2 hhi)
        have hcq : cs[q]? = some z.c := by rw [hrest q (Nat.le_refl _), List.getElem?_map, hz]; rfl
        have hgq : gs[q]? = some z.f := by rw [← HZF.out, List.getElem?_map, hz]; rfl
        have hsm := mem_small (op := op) (v := v) (x := x) (f := z.f) hgq
        have hszf : szF z.f ≤ 549755813888 := by
          have h1 := szL_take_le gs (q + 1)
          rw [take_next hgq, szL_app] at h1
          have := HSZ.out
          simp only [szL, szF] at h1 this
          omega
        rw [hzfe] at hsm hszf
        obtain ⟨⟨op2, v2, x2, a2, n2, cap2⟩, zf, zlo, zhi⟩ := z
        dsimp only at hz1 hz2 hz3 hF2 hcq hsm hszf hzfe
        obtain ⟨cur2, hr1, _⟩ := id hRw
        have hIH := IH.out op2 v2 x2 gs2 a2 n2 cap2 (wrap64 (mark + 1)) b (q * 4) zlo zhi _ cur2 wr (by have := HK.out; omega) hF2 hszf (hz3 b rfl) hr1 (fun m u hm hu => hRw.cell hcq hm hu)
        have hzl : ∀ i z2, q + 1 ≤ i → zs[i]? = some z2 → (zhi ≤ z2.lo ∨ z2.hi ≤ zlo) ∧ z2.hi ≤ hi ∧ (b < z2.lo ∨ z2.hi ≤ b) := fun i z2 hi2 hzi => by
          have k1 := (List.pairwise_iff_getElem.1 HZO.out) q i (List.getElem?_eq_some_iff.1 hz).1 (List.getElem?_eq_some_iff.1 hzi).1 (by omega)
          rw [(List.getElem?_eq_some_iff.1 hz).2, (List.getElem?_eq_some_iff.1 hzi).2] at k1
          obtain ⟨_, m1, m2, m3⟩ := HZS.out z2 (List.mem_of_getElem? hzi)
          exact ⟨k1, m2, m3 b rfl⟩
        have HZL := Lib.hid hzl
        have HRW := Lib.hid hRw
        have HH := Lib.hid hhi
        have HZ1 := Lib.hid hz1
        have HZ2 := Lib.hid hz2
        have HB2 : Hid (lo ≤ b ∧ b < hi) := Lib.hid ⟨hb1, hb2⟩
        have HLN := Lib.hid hln
        have HRE := Lib.hid hrest
        clear hzl hRw hhi hz1 hz2 hz3 hb1 hb2 hln hrest hr1 hsz hsep hS hC hF2 hcq hsm hszf hzfe hgq hz hR hbl
        go_wp2_with fail
        refine hIH.mono ?_
        rintro e w2 ⟨rfl, hS2, c', hc'⟩
        have HS2 := Lib.hid hS2
        have HC' := Lib.hid hc'
        clear hIH hS2 hc' e3
        go_wp2_with fail
        go_roundw
        case rel =>
          obtain ⟨hS, hC, _, hsep⟩ := HM.out
          have hBs : B < w.heap.size := (Array.getElem?_eq_some_iff.1 HBX.out).1
          have hBn := HB.out
          have hbb := HB2.out
          have hz1 := HZ1.out
          have hz2 := HZ2.out
          have hhi := HH.out
          refine ⟨q + 1, by go_num, by omega, Lib.hid ⟨hS.part HS2.out hz1 hz2 hbb hBn hBs, fun m u hm hu => ?_, ⟨cs.set q c', ?_, by simp, fun i hi => ?_⟩, fun i z2 hi hz2 => ?_⟩⟩
          · have hBw : w2.heap[B]? = wr.heap[B]? := HS2.out.out B (Nat.lt_of_lt_of_le hBs hS.size) (by omega) (by omega)
            have := hC m u hm hu
            simp only [World.cell?, hBw] at this ⊢
            exact this
          · have := row4_of_rw (Nat.zero_le _) (HRW.out.put4 HS2.out c' hqn HC'.out)
            rw [List.length_set] at this
            exact this
          · rw [List.getElem?_set_ne (by omega)]
            exact HRE.out i (by omega)
          · obtain ⟨k1, k2, k3⟩ := HZL.out i z2 hi hz2
            exact (hsep i z2 (by omega) hz2).keeps (HS2.out.keeps (by omega) k1.symm k3)
        case measure => simp [RowKit.intOf]; omega
    · obtain rfl : q = n := by omega
      obtain ⟨q1, hq1⟩ : ∃ q1, Hid (q1 = q + 1) := ⟨_, Lib.hid rfl⟩
      obtain ⟨q2, hq2⟩ : ∃ q2, Hid (q2 = q + 2) := ⟨_, Lib.hid rfl⟩
      have hqs : q ≤ 549755813888 := by
        have h1 := HSZ.out
        have h2 := fm_len gs
        have h3 := HF.out.here.len
        simp only [szF] at h1
        omega
      have hwa : IntKind.i64.wrap ((q : Int) + 1) = q1 := by have := hq1.out; simp [IntKind.wrap, IntKind.bits, IntKind.signed]; omega
      have hwb : IntKind.i64.wrap ((q : Int) + 2) = q2 := by have := hq2.out; simp [IntKind.wrap, IntKind.bits, IntKind.signed]; omega
      have hra : (0 : Int) ≤ q := by omega
      have hrb : (q : Int) < (q : Int) + 3 := by omega
      have hrc : (q1 : Int) < (q : Int) + 3 := by have := hq1.out; omega
      have hrd : (q2 : Int) < (q : Int) + 3 := by have := hq2.out; omega
      have hqm1 : q1 * 4 = q * 4 + 4 := by have := hq1.out; omega
      have hqm2 : q2 * 4 = q * 4 + 8 := by have := hq2.out; omega
      have HR := Lib.hid hR
      have HLN := Lib.hid hln
      have HE3 := Lib.hid e3
      have fe3 : wr.frozen? ⟨B, o + 3, none⟩ = false := by
        obtain ⟨c2, k1, _⟩ := hS.box _ _ HBX.out
        simp [World.frozen?, k1]
      have HFE := Lib.hid fe3
      obtain ⟨i0, hi0, hz0, hz1, hz2⟩ := info_parts info_form
      have HI0 := Lib.hid hi0
      have HZ0 := Lib.hid hz0
      have HZ1 := Lib.hid hz1
      have HZ2 := Lib.hid hz2
      have hown : (wr.alloc (.cells #[.int .i64 0, .int .i64 0, .int .i64 0, .slice none 0 0, .int .i64 0, .int .i64 0, .int .i64 0, .slice none 0 0, .int .i64 0, .int .i64 0, .int .i64 0, .slice none 0 0] 26)).drew.ownsRow 0 26 4 (.slice a q cap) q (cells4 cs) := by
        have := hR.stays (((Below.refl _ _).alloc (Nat.le_refl _) (.cells #[.int .i64 0, .int .i64 0, .int .i64 0, .slice none 0 0, .int .i64 0, .int .i64 0, .int .i64 0, .slice none 0 0, .int .i64 0, .int .i64 0, .int .i64 0, .slice none 0 0] 26)))
        unfold Row4 at this
        rw [hln] at this
        exact this
      have HOWN := Lib.hid hown
      have HNEWS : Hid (∀ j u, (cells4 [d0, d0, d0])[j]? = some u → (wr.alloc (.cells #[.int .i64 0, .int .i64 0, .int .i64 0, .slice none 0 0, .int .i64 0, .int .i64 0, .int .i64 0, .slice none 0 0, .int .i64 0, .int .i64 0, .int .i64 0, .slice none 0 0] 26)).drew.cell? ((⟨wr.heap.size, 0, none⟩ : Addr).add j) = some u) := Lib.hid fun j u hj => by
        have hn := heap_alloc_new wr (.cells #[.int .i64 0, .int .i64 0, .int .i64 0, .slice none 0 0, .int .i64 0, .int .i64 0, .int .i64 0, .slice none 0 0, .int .i64 0, .int .i64 0, .int .i64 0, .slice none 0 0] 26)
        rw [Addr.add_lit]
        show (wr.alloc (.cells #[.int .i64 0, .int .i64 0, .int .i64 0, .slice none 0 0, .int .i64 0, .int .i64 0, .int .i64 0, .slice none 0 0, .int .i64 0, .int .i64 0, .int .i64 0, .slice none 0 0] 26)).cell? _ = _
        unfold World.cell?
        rw [hn]
        simpa [cells4, cell4, d0] using hj
      have HLO : Hid (0 ≤ (wr.alloc (.cells #[.int .i64 0, .int .i64 0, .int .i64 0, .slice none 0 0, .int .i64 0, .int .i64 0, .int .i64 0, .slice none 0 0, .int .i64 0, .int .i64 0, .int .i64 0, .slice none 0 0] 26)).drew.heap.size) := Lib.hid (Nat.zero_le _)
      have HOB : Hid (∀ j, (Value.slice a q cap).ownBlock = some j → lo ≤ j ∧ j < hi) := Lib.hid fun j hj => by
        rcases row4_cases hR with ⟨hv, _⟩ | ⟨g, cap2, hv, _, _⟩
        · rw [hv] at hj
          cases hj
        · have hab := HAB.out g (by cases hv; rfl)
          rw [hv] at hj
          cases hj
          exact hab
      have HBW : Hid (B < wr.heap.size) := Lib.hid (Nat.lt_of_lt_of_le (Array.getElem?_eq_some_iff.1 HBX.out).1 hS.size)
      have HSW := Lib.hid hS
      have HML : Hid (q + 3 ≤ maxLen) := Lib.hid (by unfold maxLen; omega)
      have HBY : Hid ((q + 3) * 48 ≤ 140737488355328) := Lib.hid (by omega)
      have e3a : (wr.alloc (.cells #[.int .i64 0, .int .i64 0, .int .i64 0, .slice none 0 0, .int .i64 0, .int .i64 0, .int .i64 0, .slice none 0 0, .int .i64 0, .int .i64 0, .int .i64 0, .slice none 0 0] 26)).cell? ⟨B, o + 3, none⟩ = some (.slice a q cap) := by
        have h1 := heap_alloc_old wr (.cells #[.int .i64 0, .int .i64 0, .int .i64 0, .slice none 0 0, .int .i64 0, .int .i64 0, .int .i64 0, .slice none 0 0, .int .i64 0, .int .i64 0, .int .i64 0, .slice none 0 0] 26) HBW.out
        have := HE3.out
        simp only [World.cell?, h1] at this ⊢
        exact this
      clear hS hC hsep hR hln hrest hi0 hz0 hz1 hz2 hown fe3
      go_upto_region 7 with fail
      go_region_law (first
        | (refine step_append_lies _ (by rfl) (.tmp 37) (.tmp 42) 24 (by rfl) 0 26 i0 _ 4 48 Try.underlying24 HI0.out HZ0.out HZ1.out HZ2.out (by rfl) (by decide) (.slice a q cap) q (cells4 cs) (by rfl) HOWN.out ⟨wr.heap.size, 0, none⟩ 3 3 (cells4 [d0, d0, d0]) (by rfl) (by rfl) HNEWS.out (cells4_one _) (by decide) HML.out HBY.out HLO.out (wr.heap.size + 1) (by simp) ?_; intro g cap3 w3 hown3 hgrow3 hat3 hlt3;
            have hc3 : ∀ i u, (cells4 [d0, d0, d0])[i]? = some u → w3.cell? ⟨g, q * 4 + i, none⟩ = some u := (fun i u hi => by
              have := World.ownsRow.cells (g := g) hown3 rfl (q * 4 + i) u (by rw [List.getElem?_append_right (by rw [cells4_length, HLN.out]; omega), cells4_length, HLN.out, Nat.add_sub_cancel_left]; exact hi)
              rw [Addr.add_lit, Nat.zero_add] at this
              exact this);
            have s0 := hc3 0 _ rfl; have s1 := hc3 1 _ rfl; have s2 := hc3 2 _ rfl; have s3 := hc3 3 _ rfl;
            have s4 := hc3 4 _ rfl; have s5 := hc3 5 _ rfl; have s6 := hc3 6 _ rfl; have s7 := hc3 7 _ rfl;
            have s8 := hc3 8 _ rfl; have s9 := hc3 9 _ rfl; have s10 := hc3 10 _ rfl; have s11 := hc3 11 _ rfl;
            simp only [Nat.add_zero] at s0;
            have fr : ∀ j, w3.frozen? ⟨g, j, none⟩ = false := World.ownsRow.frozenAt hown3;
            have hBb : w3.heap[B]? = wr.heap[B]? := (hgrow3.block B (by have := HBW.out; simp; omega) (fun e => by have h1 := HOB.out B e.symm; have h2 := HB.out; omega)).trans (heap_alloc_old _ _ HBW.out);
            have e4 : w3.cell? ⟨B, o + 3, none⟩ = some (.slice a q cap) := (by have := HE3.out; simp only [World.cell?, hBb] at this ⊢; exact this);
            have f4 : w3.frozen? ⟨B, o + 3, none⟩ = false := (by have := HFE.out; simp only [World.frozen?, hBb] at this ⊢; exact this);
            have hgB : g ≠ B := (by
              intro e
              subst e
              have h2 := HB.out
              rcases hat3 with h | h
              · have := HOB.out _ h; omega
              · have := HBW.out; omega);
            have hBg : B ≠ g := hgB.symm;
            have HG3 := Lib.hid hgrow3; have HAT3 := Lib.hid hat3; have HLT3 := Lib.hid hlt3; have HBB := Lib.hid hBb;
            clear hc3 hown3 hgrow3 hat3 hlt3 hBb))
      all_goals
        have hBs : B < w.heap.size := (Array.getElem?_eq_some_iff.1 HBX.out).1
        have hWS : w.heap.size ≤ wr.heap.size := HSW.out.size
        have hgin : lo ≤ g ∧ g < hi ∨ w.heap.size ≤ g := by
          rcases HAT3.out with h | h
          · exact .inl (HOB.out g h)
          · exact .inr (by omega)
        have hS3 : Spl lo hi B o w w3 := ((HSW.out.grown (World.grownBy_alloc wr _ none) hBs (fun j e => by cases e)).drew).grown HG3.out hBs (fun j hj => by
          have h1 := HOB.out j hj
          have h2 := HB.out
          exact ⟨.inl h1, by omega⟩)
        have hC3 : ∀ m u, m < 4 → (cell4 (op, 9, wrap64 (x + mark), (a, q, cap)))[m]? = some u → w3.cell? ⟨B, o + m, none⟩ = some u := fun m u hm hu => by
          have := HM.out.2.1 m u hm hu
          have hb := HBB.out
          simp only [World.cell?, hb] at this ⊢
          exact this
        go_wp2_with fail
        (try simp only [Exit.inBlock, Exit.then])
        refine bodyPost_end (results_none rfl _ _ _) rfl ?_
        refine ⟨rfl, ?_, op, 9, wrap64 (x + mark), some ⟨g, 0, none⟩, q + 3, cap3, fun m u hm hu => ?_⟩
        · repeat (first | (with_reducible exact hS3) | (with_reducible refine Spl.own (m := 3) ?_ (by omega) _) | (with_reducible refine Spl.inner ?_ hgin hgB _))
        · match m, hm, hu with
          | 0, _, hu =>
            cases hu
            simp only [cell_far hgB, cell_own1 (show o + 3 ≠ o + 0 by omega)]
            exact hC3 0 _ (by omega) rfl
          | 1, _, hu =>
            cases hu
            simp only [cell_far hgB, cell_own1 (show o + 3 ≠ o + 1 by omega)]
            exact hC3 1 _ (by omega) rfl
          | 2, _, hu =>
            cases hu
            simp only [cell_far hgB, cell_own1 (show o + 3 ≠ o + 2 by omega)]
            exact hC3 2 _ (by omega) rfl
          | 3, _, hu =>
            cases hu
            simp only [cell_far hgB]
            refine cell_own2 ?_
            simp only [cell_far hgB, e4]
            rfl
end Go.Proofs.Ytmdanfeilgeoaaa
