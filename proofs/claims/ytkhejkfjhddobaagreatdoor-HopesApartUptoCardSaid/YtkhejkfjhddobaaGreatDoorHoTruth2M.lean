/- (*Hopes).Truth of any depth and predicate, on a whole Hopes. -/
import Derived.Test.YtkhejkfjhddobaaGreatDoorHoEntriesM
import Derived.Test.YtkhejkfjhddobaaGreatDoorNodeRowM
set_option maxRecDepth 100000
set_option maxHeartbeats 16000000
namespace Go.Proofs.YtkhejkfjhddobaaGreatDoor
open Go.RowKit Gim
def yHL (nd : yAc) (fs : List FrS) (dn : Bool) (ex : Option (List Int)) (d k : Int) : Int × Int :=
 if k < 0 ∨ nd.preds.length ≤ k ∨ d < 0 ∨ fs.length < d ∨ (d = fs.length ∧ ex = none) then (0, 2)
 else if d = fs.length then ((ex.getD []).getD k.toNat 0, 0)
 else (yEN nd fs dn d.toNat k.toNat, 0)
theorem yOe {n0 : Nat} {tg : Nat → Nat × Nat} {H : Nat} {nd : yAc} {fs : List FrS} {s : CkS} {ex : Option (List Int)} (w : World) (h : HoX n0 w tg H nd fs s ex) (d k : Int)
  (hout : k < 0 ∨ nd.preds.length ≤ k ∨ d < 0 ∨ fs.length < d ∨ (d = fs.length ∧ ex = none)) :
  Calls Tryz.prog 18 #[.pointer (some ⟨H, 0, none⟩), .int .i64 d, .int .i64 k] w fun e w' => e = .returned (.tuple #[.int .i64 0, .int .i64 2]) ∧ w' = w := by
 obtain ⟨K, vF, vX, vK, ps, vO, h1, h2, h3⟩ := h; obtain ⟨np, hnp⟩ := je (nd.preds.length); obtain ⟨fn, hfn⟩ := je (fs.length); obtain ⟨mn, ra, rc, pa, pc, g1, g2⟩ := h1.hH; obtain ⟨fa, fc, rfl, hfr⟩ := h1.fr.r; rw [hnp] at hout g1 h2; rw [hfn] at hout g1; have q2 := jc g1 2 rfl; have q3 := jc g1 4 rfl; have q5 := jc g1 5 rfl; have hnil : ∀ W, (binOp .eql 84 (.slice none 0 0) (.slice none 0 0)).run Tryz.prog W = .ok (.bool true) W := fun W => Lib.run_eql_slice_nil W _ _ none 0 0 0 0 Tryz.underlying84
 by_cases i1 : k < 0
 case' neg =>
  by_cases i2 : (np : Int) ≤ k
  case' neg =>
   by_cases i3 : d < 0
   case' neg =>
    by_cases i4 : (fn : Int) < d
    case' neg =>
     obtain ⟨rfl, rfl⟩ : d = fn ∧ ex = none := by
      rcases hout with h | h | h | h | h
      ·exact absurd h i1
      ·exact absurd h i2
      ·exact absurd h i3
      ·exact absurd h i4
      ·exact h
     have h2' := h2; obtain rfl := h2'
 all_goals
  clear g1 g2 hfr h1 h2 h3 hout hnp hfn; go_enter Tryz.func18, Tryz.ntmps18; go_wp2_with fail; go_ret2; exact ⟨rfl, rfl⟩
theorem yQF {n0 : Nat} {tg : Nat → Nat × Nat} {H : Nat} {nd : yAc} {fs : List FrS} {s : CkS} {l : List Int} (w : World) (h : HoX n0 w tg H nd fs s (some l)) (k : Nat) (hk : k < nd.preds.length) :
  Calls Tryz.prog 18 #[.pointer (some ⟨H, 0, none⟩), .int .i64 fs.length, .int .i64 k] w fun e w' => e = .returned (.tuple #[.int .i64 (l.getD k 0), .int .i64 0]) ∧ w' = w := by
 obtain ⟨K, vF, vX, vK, ps, vO, h1, ⟨h0, b, rfl, hb, _⟩, h3⟩ := h; obtain ⟨np, hnp⟩ := je (nd.preds.length); obtain ⟨fn, hfn⟩ := je (fs.length); obtain ⟨mn, ra, rc, pa, pc, g1, g2⟩ := h1.hH; obtain ⟨fa, fc, rfl, hfr⟩ := h1.fr.r; rw [hnp] at hk g1 h0; rw [hfn] at g1 ⊢; have q2 := jc g1 2 rfl; have q3 := jc g1 4 rfl; have q5 := jc g1 5 rfl; obtain ⟨z, hz⟩ := je (l.getD k 0); have c3 : w.cell? ⟨b, k, none⟩ = some (.int .i64 z) := by rw [← hz]; exact yAy hb (yAi (by rw [h0]; exact hk) 0)
 rw [hz]; have hnil : ∀ W, (binOp .eql 84 (.slice (some ⟨b, 0, none⟩) np np) (.slice none 0 0)).run Tryz.prog W = .ok (.bool false) W := fun W => Lib.run_eql_slice_nil W _ _ _ np np 0 0 Tryz.underlying84
 have i1 : ¬ (k : Int) < 0 := by omega
 have i2 : ¬ (np : Int) ≤ k := by omega
 have i3 : ¬ (fn : Int) < 0 := by omega
 have hk' : (k : Int) < np := by omega
 clear g1 g2 hfr h1 h3 hnp hfn hb hz h0; go_enter Tryz.func18, Tryz.ntmps18; go_wp2_with fail; go_ret2; exact ⟨rfl, rfl⟩
theorem yJe {n0 : Nat} {tg : Nat → Nat × Nat} {H K : Nat} {nd : yAc} {vF vX : Value} {fs : List FrS} {ps : List Nat} {vO : Value} {en : Nat} {es : List Value} {num : Int} {tx dn : Bool} (w : World)
  (h : HoI n0 w tg H K nd vF vX (.slice none 0 0) fs ps vO en es num tx dn) (hok : yB2 nd) (d k : Nat) (hd : d < fs.length) (hk : k < nd.preds.length) (hn : fs.length ≤ 1048576) :
  Calls Tryz.prog 18 #[.pointer (some ⟨H, 0, none⟩), .int .i64 d, .int .i64 k] w fun e w' => e = .returned (.tuple #[.int .i64 (yEN nd fs dn d k), .int .i64 0]) ∧ Fr (fun b => b = H) w w' ∧ ∃ kB, HoI n0 w' (tgU tg w.heap.size 6) H K nd vF vX (.slice (some ⟨kB, 0, none⟩) fs.length fs.length) fs ps vO en es num tx dn ∧ KnM w w' kB nd.preds.length 0 (yCY nd fs dn) := by
 obtain ⟨np, hnp⟩ := je (nd.preds.length); obtain ⟨nr, hnr⟩ := je (nd.rows.length); obtain ⟨fn, hfn⟩ := je (fs.length); obtain ⟨mn, ra, rc, pa, pc, h1, h2⟩ := h.hH; obtain ⟨fa, fc, rfl, hfr⟩ := h.fr.r; obtain ⟨xa, xn, xc, rfl⟩ := h.xs; have hnpl := hok.np; have hHs := h.lt; have hne : ∀ b, (tg b).1 ≠ 0 → ¬ b = H := by rintro b ht rfl; exact ht h.tH
 have hKC := yOm nd fs ps H K mn ra rc pa pc fa fs.length fc (.slice xa xn xc) (.slice none 0 0) vO num tx dn w hok h1
  (fun W hW => h2 W fun b hb ht => hW.block b hb (hne b (by rw [ht]; decide)))
  (fun W hW => by
    have := (h.fr.keep (W' := W) (tg' := tg) fun b hb ht => ⟨hW.block b hb (hne b (by omega)), rfl⟩).r; obtain ⟨fa', fc', e, hr⟩ := this; have e' : fa = fa' ∧ fc = fc' := by injection e with a b c; exact ⟨a, c⟩
    rw [e'.1, e'.2]; exact hr) hn
  (fun W hW => (hW.block K (jl h.ck.hK) (hne K (by rw [h.ck.tK]; decide))).trans h.ck.hK) ⟨_, _, _, rfl⟩ ⟨_, _, _, rfl⟩
 have hkl := yDW nd fs dn fs.length; have hdl : d < (yCY nd fs dn).length := by unfold yCY; rw [hkl]; exact hd
 have hll := yGw nd fs dn fs.length _ (List.getElem_mem (show d < (yBg nd fs dn fs.length).1.length by rw [hkl]; exact hd)); obtain ⟨ks, hks⟩ := je (yCY nd fs dn); have HKL : Hid (ks[d]? = some (ks.getD d []) ∧ (ks.getD d []).length = np) := jh (by
  have hd9 : d < ks.length := by rw [← hks]; exact hdl
  have e : ks[d]? = some ks[d] := jk hd9; have e2 : ks.getD d [] = ks[d] := by rw [jg, e]; rfl
  refine ⟨by rw [e2]; exact e, ?_⟩; rw [e2, ← hnp]; subst hks; exact hll)
 have HTF := jh (show yEN nd fs dn d k = (ks.getD d []).getD k 0 by unfold yEN; rw [hks]); rw [hks] at hKC; rw [hnp] at hKC h1 hk hnpl; rw [hnr] at h1 hKC; rw [hfn] at hKC h1 hd hn ⊢; have q2 := jc h1 2 rfl; have q4 := jc h1 4 rfl; have q6 := jc h1 6 rfl; rw [hfn] at h; have i1 : ¬ (k : Int) < 0 := by omega
 have i2 : ¬ (np : Int) ≤ k := by omega
 have i3 : ¬ (d : Int) < 0 := by omega
 have i4 : ¬ (fn : Int) < d := by omega
 have i5 : ((d : Int) == fn) = false := jn.2 (by omega); have hd' : (d : Int) < fn := by omega
 have hk' : (k : Int) < np := by omega
 have HKC := jh hKC; have HH := jh h; have HH1 := jh h1; have HKS := jh hks; have HNP := jh (And.intro hnp hnr); clear hKC h h1 h2 hfr hkl hdl hll hks hnp hnr hok; have hnil : ∀ W, (binOp .eql 85 (.slice none 0 0) (.slice none 0 0)).run Tryz.prog W = .ok (.bool true) W := fun W => Lib.run_eql_slice_nil W _ _ none 0 0 0 0 Tryz.underlying85
 go_enter Tryz.func18, Tryz.ntmps18; go_wp2_with fail; refine HKC.out.mono ?_; rintro e w2 ⟨rfl, hf2, kB, hh2, hkm⟩; obtain ⟨t, c1, c2, _, _⟩ := hkm.cell HKL.out.1; rw [Nat.zero_add] at c1; have hlk : (ks.getD d []).length = np := HKL.out.2; obtain ⟨z, hz⟩ := je ((ks.getD d []).getD k 0); have c3 : w2.cell? ⟨t, k, none⟩ = some (.int .i64 z) := by rw [← hz]; exact yAy c2 (yAi (by rw [hlk]; exact hk) 0)
 have q6 := jc hh2 6 rfl; have HFIN : Hid (Fr (fun b => b = H) w w2 ∧ ∃ kB, HoI n0 w2 (tgU tg w.heap.size 6) H K nd (.slice fa fn fc) (.slice xa xn xc) (.slice (some ⟨kB, 0, none⟩) fn fn) fs ps vO en es num tx dn ∧ KnM w w2 kB nd.preds.length 0 (yCY nd fs dn)) := jh ⟨hf2, kB, HH.out.turn hf2 ⟨_, _, _, rfl⟩ ⟨_, _, _, rfl⟩ (fun m va vb e => by
  rw [HH1.out] at e; have : Value.int .i64 mn = m ∧ Value.slice ra nr rc = va ∧ Value.slice pa np pc = vb := by injection e with e; injection e with e; injection e with e; injection e with e1 e; injection e with e2 e; injection e with e3 e; exact ⟨e1, e2, e3⟩
  rw [← this.1, ← this.2.1, ← this.2.2]; exact hh2), by rw [HNP.out.1, HKS.out]; exact hkm⟩
 have HZ := jh (HTF.out.trans hz); clear hf2 hh2 hkm c2 hlk hz; go_wp2_with fail; go_ret2; exact ⟨by rw [HZ.out]; rfl, HFIN.out⟩
theorem yQn {n0 : Nat} {tg : Nat → Nat × Nat} {H : Nat} {nd : yAc} {fs : List FrS} {s : CkS} {ex : Option (List Int)} (w : World) (h : HoX n0 w tg H nd fs s ex) (hok : yB2 nd) (d k : Nat) (hd : d < fs.length) (hk : k < nd.preds.length) (hn : fs.length ≤ 1048576) :
  Calls Tryz.prog 18 #[.pointer (some ⟨H, 0, none⟩), .int .i64 d, .int .i64 k] w fun e w' => e = .returned (.tuple #[.int .i64 (yEN nd fs s.dn d k), .int .i64 0]) ∧ ∃ tg', HoX n0 w' tg' H nd fs s ex ∧ Go6 tg tg' w w' := by
 obtain ⟨K, vF, vX, vK, ps, vO, h1, h2, h3⟩ := h; rcases h3 with rfl | ⟨kB, vl, rfl, hkB, _, hvl, hks⟩
 ·refine (yJe w h1 hok d k hd hk hn).mono ?_; rintro e w2 ⟨rfl, hf, kB, hI, hkm⟩; have hHt : ∀ b, (tg b).1 ≠ 0 → ¬ b = H := by rintro b ht rfl; exact ht h1.tH
  refine ⟨rfl, tgU tg w.heap.size 8, ⟨K, vF, vX, _, ps, vO, hI.retag (fun b hb hu => ?_) (fun b hb hz => ?_), h2.keep fun b hb ht => ⟨hf.block b hb (hHt b (by rw [ht]; decide)), yAl hb⟩, ?_⟩, ⟨?_, fun b hb => yAl hb⟩⟩
  ·by_cases hl : b < w.heap.size
   ·rw [yAl hl, yAl hl]
   ·exfalso; rcases hu with hu | hu
    ·rw [yBO (by omega)] at hu; unfold yHf at hu; omega
    ·have := h1.old.1; omega
  ·by_cases hl : b < w.heap.size
   ·rw [yAl hl] at hz ⊢; exact hz
   ·rw [yBO (by omega)] at hz; cases hz
  ·obtain ⟨vl, a1, a2, a3⟩ := hkm.kb; have hkl : (yCY nd fs s.dn).length = fs.length := by unfold yCY; rw [yDW]
   refine .inr ⟨kB, vl, by rw [hkl], a1, by rw [yBO hkm.lo], by rw [a2, Nat.zero_add], fun i l hl => ?_⟩; obtain ⟨t, b1, b2, b3, _⟩ := a3 i l hl; rw [Nat.zero_add] at b1; exact ⟨t, b1, b2, by rw [yBO b3]⟩
  ·exact ⟨hf.os, hf.tape, hf.output, hf.size, fun j hj hn => hf.block j hj (fun e => hn (by rw [e, h1.tH]; decide))⟩
 ·obtain ⟨np, hnp⟩ := je (nd.preds.length); obtain ⟨fn, hfn⟩ := je (fs.length); have hkl : (yCY nd fs s.dn).length = fn := by unfold yCY; rw [yDW, hfn]
  have hdl : d < (yCY nd fs s.dn).length := by rw [hkl, ← hfn]; exact hd
  obtain ⟨t, e1, e2, _⟩ := hks d _ (yAi hdl []); have hlk : ((yCY nd fs s.dn).getD d []).length = nd.preds.length := yGw nd fs s.dn fs.length _ (List.mem_of_getElem? (yAi hdl [])); obtain ⟨mn, ra, rc, pa, pc, g1, g2⟩ := h1.hH; obtain ⟨fa, fc, rfl, hfr⟩ := h1.fr.r; rw [hnp] at hk g1 hlk e1; rw [hkl] at g1; rw [hfn] at g1 hd; have q2 := jc g1 2 rfl; have q3 := jc g1 4 rfl; have q6 := jc g1 6 rfl; obtain ⟨z, hz⟩ := je (yEN nd fs s.dn d k); have c3 : w.cell? ⟨t, k, none⟩ = some (.int .i64 z) := by rw [← hz]; exact yAy e2 (yAi (by rw [hlk]; exact hk) 0)
  have c2 : w.cell? ⟨kB, d, none⟩ = some (.slice (some ⟨t, 0, none⟩) np np) := by simp [World.cell?, hkB, e1]
  rw [hz]; have hnil : ∀ W, (binOp .eql 85 (.slice (some ⟨kB, 0, none⟩) fn fn) (.slice none 0 0)).run Tryz.prog W = .ok (.bool false) W := fun W => Lib.run_eql_slice_nil W _ _ _ fn fn 0 0 Tryz.underlying85
  have i1 : ¬ (k : Int) < 0 := by omega
  have i2 : ¬ (np : Int) ≤ k := by omega
  have i3 : ¬ (d : Int) < 0 := by omega
  have i4 : ¬ (fn : Int) < d := by omega
  have i5 : ((d : Int) == fn) = false := jn.2 (by omega); have hd' : (d : Int) < fn := by omega
  have hk' : (k : Int) < np := by omega
  have HX : Hid (HoX n0 w tg H nd fs s ex) := jh ⟨K, _, vX, _, ps, vO, h1, h2, .inr ⟨kB, vl, rfl, hkB, ‹_›, hvl, hks⟩⟩; clear g1 g2 hfr h1 h2 hnp hfn hz hks hvl hkB e1 e2 hlk hkl hdl hn hok; go_enter Tryz.func18, Tryz.ntmps18; go_wp2_with fail; go_ret2; exact ⟨rfl, tg, HX.out, Go6.refl _ _⟩
theorem yBA {n0 : Nat} {tg : Nat → Nat × Nat} {H : Nat} {nd : yAc} {fs : List FrS} {s : CkS} {ex : Option (List Int)} (w : World) (h : HoX n0 w tg H nd fs s ex) (hok : yB2 nd) (d k : Int) (hn : fs.length ≤ 1048576) :
  Calls Tryz.prog 18 #[.pointer (some ⟨H, 0, none⟩), .int .i64 d, .int .i64 k] w fun e w' => e = .returned (.tuple #[.int .i64 (yHL nd fs s.dn ex d k).1, .int .i64 (yHL nd fs s.dn ex d k).2]) ∧ ∃ tg', HoX n0 w' tg' H nd fs s ex ∧ Go6 tg tg' w w' := by
 unfold yHL; split
 ·next hout =>
  refine (yOe w h d k hout).mono ?_; rintro e w' ⟨rfl, rfl⟩; exact ⟨rfl, tg, h, Go6.refl _ _⟩
 ·next hin =>
  obtain ⟨k, rfl⟩ := Int.eq_ofNat_of_zero_le (show 0 ≤ k by omega); obtain ⟨d, rfl⟩ := Int.eq_ofNat_of_zero_le (show 0 ≤ d by omega); have hk : k < nd.preds.length := by omega
  split
  ·next hd =>
   cases ex with
   | none => exact absurd (.inr (.inr (.inr (.inr ⟨hd, rfl⟩)))) hin
   | some l =>
    rw [hd]; refine (yQF w h k hk).mono ?_; rintro e w' ⟨rfl, rfl⟩; exact ⟨rfl, tg, h, Go6.refl _ _⟩
  ·exact yQn w h hok d k (by omega) hk hn
def ExR (nd : yAc) (es : List EvD) (i : Nat) (s : CkS) (ex : Option (List Int)) : Prop :=
 (yEd es i = [] ∧ ex = none) ∨ ∃ m l, yEd es i = [m] ∧ ex = some l ∧ ∀ p, p < nd.preds.length → l.getD p 0 = exD (yAk (yAg es i) s.dn) (xN nd p) m
theorem yTG (nd : yAc) (es : List EvD) (s : CkS) : ExR nd es 0 s none := .inl ⟨rfl, rfl⟩
theorem yRb {nd : yAc} {es : List EvD} {i : Nat} {s : CkS} {fs : List FrS} {e : EvD} (hN : yAD nd) (h : yCV nd es i s fs) (he : es[i]? = some e) (hn : yAI s e = true) : ExR nd es (i + 1) (stp s e) (yAA nd (stp s e).dn fs e).2 := by
 have hg : es.getD i ze = e := by rw [jg, he]; rfl
 have ht : yEd es (i + 1) = if e.kd = 0 then [] else [e.num] := by show (if (es.getD i ze).kd = 0 then [] else [(es.getD i ze).num]) = _; rw [hg]
 rcases (yI6 hN h he hn).2 with ⟨h0, h1⟩ | ⟨h0, l, h1, h2⟩
 ·exact .inl ⟨by rw [ht, if_pos h0], h1⟩
 ·exact .inr ⟨e.num, l, by rw [ht, if_neg h0], h1, h2⟩
theorem ySu (op t : List Int) {d : Nat} (hd : d ≤ op.length) : ((-1 :: op) ++ t).getD d 0 = yAo op d := by
 rw [jg, List.getElem?_append_left (by rw [List.length_cons]; omega), ← jg]; unfold yAo; cases d with
 | zero => rfl
 | succ d =>
  rw [if_neg (by omega)]; rfl
theorem yPY {nd : yAc} {es : List EvD} {i : Nat} {s : CkS} {fs : List FrS} {ex : Option (List Int)} (hN : yAD nd) (h : yCV nd es i s fs) (hx : ExR nd es i s ex) {d k : Nat} (hd : d < (yA0 es i).length) (hk : k < nd.preds.length) :
  yHL nd fs s.dn ex d k = (exD (yAk (yAg es i) s.dn) (xN nd k) ((yA0 es i).getD d 0), 0) := by
 have hl := h.frs.len; have hsl : (yA0 es i).length = (yAg es i).op.length + 1 + (yEd es i).length := by unfold yA0; rw [jp, List.length_cons]
 unfold yHL; by_cases hdo : d ≤ (yAg es i).op.length
 ·rw [if_neg (by omega), if_neg (by omega)]; have := yNs hN h.ok h.frs hdo hk; unfold yA0; rw [ySu _ _ hdo]; exact congrArg (fun z => (z, (0 : Int))) this
 ·rcases hx with ⟨ht, _⟩ | ⟨m, l, ht, rfl, hl2⟩
  ·rw [ht] at hsl; simp only [List.length_nil] at hsl; omega
  ·rw [ht] at hsl; simp only [List.length_cons, List.length_nil] at hsl; have hdd : d = (yAg es i).op.length + 1 := by omega
   rw [if_neg (by simp; omega), if_pos (by omega)]; have hm : (yA0 es i).getD d 0 = m := by unfold yA0; rw [ht, hdd, jg, List.getElem?_append_right (by rw [List.length_cons]; exact jr _), List.length_cons, Nat.sub_self]; rfl
   rw [hm]; exact congrArg (fun z => (z, (0 : Int))) (hl2 k hk)
theorem yPF {nd : yAc} {es : List EvD} {i : Nat} {s : CkS} {fs : List FrS} {ex : Option (List Int)} (h : yCV nd es i s fs) (hx : ExR nd es i s ex) {d k : Int} (ho : k < 0 ∨ nd.preds.length ≤ k ∨ d < 0 ∨ (yA0 es i).length ≤ d) : yHL nd fs s.dn ex d k = (0, 2) := by
 have hl := h.frs.len; have hsl : (yA0 es i).length = (yAg es i).op.length + 1 + (yEd es i).length := by unfold yA0; rw [jp, List.length_cons]
 unfold yHL; rw [if_pos]; rcases ho with ho | ho | ho | ho
 ·exact .inl ho
 ·exact .inr (.inl ho)
 ·exact .inr (.inr (.inl ho))
 ·rcases hx with ⟨ht, rfl⟩ | ⟨m, l, ht, rfl, _⟩
  ·rw [ht] at hsl; simp only [List.length_nil] at hsl; by_cases he : d = fs.length
   ·exact .inr (.inr (.inr (.inr ⟨he, rfl⟩)))
   ·exact .inr (.inr (.inr (.inl (by omega))))
  ·rw [ht] at hsl; simp only [List.length_cons, List.length_nil] at hsl; exact .inr (.inr (.inr (.inl (by omega))))
theorem yQo {w : World} {B C k n : Nat} {T : TypeId} {v : Value} {l : List Value} (h : w.ownsRow B T k v n l) (hc : C ≤ B) : w.ownsRow C T k v n l :=
 ⟨h.1, h.2.imp_right fun ⟨g, cap, cur, h1, h2, h3⟩ => ⟨g, cap, cur, h1, ju hc h2, h3⟩⟩
theorem row_one (w : World) (k : Int) : Row (w.alloc (.cells #[.int .i64 k] 3)) w.heap.size 3 .i64 (.slice (some ⟨w.heap.size, 0, none⟩) 1 1) [k] :=
 ⟨rfl, .inr ⟨w.heap.size, 1, #[.int .i64 k], rfl, jr _, jw _ _, jr _, by unfold maxLen; decide, rfl, rfl⟩⟩
theorem yIv (es : List EvD) (i : Nat) : 1 ≤ (yA0 es i).length ∧ (yA0 es i).length ≤ i + 2 := by
 have h := yGq es i; have ht : (yEd es i).length ≤ 1 := by
  cases i with
  | zero => exact jz _
  | succ i =>
   show (if (es.getD i ze).kd = 0 then ([] : List Int) else [(es.getD i ze).num]).length ≤ 1; split
   ·exact jz _
   ·exact jr _
 unfold yA0; rw [jp, List.length_cons]; omega
theorem yH5 {es : List EvD} {ea : Option Addr} {en ec : Nat} (w : World) (hE : yC4 w es ea en ec) {sE : CkS} (hall : yA6 ck0 es = some sE) (hen : en ≤ 4096) :
  Calls Tryz.prog 28 #[.slice ea en ec] w fun e w' => ∃ v, e = .returned v ∧ Row w' w.heap.size 3 .i64 v (yA0 es en) ∧ Below w.heap.size w w' := by
 have HE := jh hE; have HL := jh hE.len; have HALL := jh hall; have hle := hE.le; have hcl := hE.cap_le; have HR1 := jh (row_one w (-1)); have HB1 : Hid (Below w.heap.size w (w.alloc (.cells #[.int .i64 (-1)] 3))) := jh ((jf _ _).alloc (jr _) _); clear hE hall; go_enter Tryz.func28, Tryz.ntmps28; go_wp2_with fail; go_loopw [3, 4] (fun v3 v4 wr => ∃ i : Nat, v4 = .int .i64 i ∧ i ≤ en ∧ Below w.heap.size w wr ∧ Row wr w.heap.size 3 .i64 v3 (yA0 es i)) (fun _ v4 _ => en - (intOf v4).toNat)
 case atStart => exact ⟨0, rfl, jz _, HB1.out, HR1.out⟩
 case round =>
  obtain ⟨i, rfl, hi, hb9, hro⟩ := hrel; by_cases hin : i < en
  ·have hin' : (i : Int) < en := by omega
   obtain ⟨e, he⟩ : ∃ e, es[i]? = some e := ⟨_, jk (by rw [HL.out]; exact hin)⟩
   obtain ⟨s, fs, hbg, hrun⟩ := yEY HALL.out i (by rw [HL.out]; omega); obtain ⟨t, t1, hnx, t3⟩ := yCC HALL.out he; rw [hbg] at t1; injection t1 with t1
   subst t1; obtain ⟨d, hd, hdl, hst⟩ := yRn hrun (yPS hbg) he hnx; obtain ⟨b, o, rfl, hfit⟩ := (HE.out.below hb9).fit i hin; have hF := hfit i e he; obtain ⟨aa, an, ac, c4, _⟩ := hF.c4; have hsl := yIv es i; obtain ⟨n, hn⟩ := je ((yA0 es i).length); rw [hn] at hsl hdl; have hro' : wr.ownsRow w.heap.size 3 1 u3 n ((yA0 es i).map (Value.int .i64)) := by rw [← hn]; exact hro
   obtain ⟨a3, cp3, rfl, h31, h32, h33⟩ := yAb hro'; obtain ⟨g, rfl, hg, hgs⟩ := h33 0 (by omega); obtain ⟨kd, nu, dp, nm, ats, tx, fr, tu⟩ := e; obtain ⟨hbl, c0, c1, c2, c3, _, c5, c6, c7⟩ := hF; simp only at c0 c1 c2 c3 c5 c6 c7 hd hst; subst hd; obtain ⟨X, hX⟩ := je (wr.heap.size); obtain ⟨W5, hW5⟩ := je (wr.alloc (.cells #[.int .i64 kd, .int .i64 nu, .int .i64 d, .string nm, .slice aa an ac, .string tx, .int .i64 fr, .int .i64 tu] 45)); have hX5 : W5.heap[X]? = some (.cells #[.int .i64 kd, .int .i64 nu, .int .i64 d, .string nm, .slice aa an ac, .string tx, .int .i64 fr, .int .i64 tu] 45) := by rw [← hW5, ← hX]; exact jw _ _
   have hb5 : Below wr.heap.size wr W5 := by rw [← hW5]; exact (jf _ _).alloc (jr _) _
   have hro5 : W5.ownsRow w.heap.size 3 1 (.slice (some ⟨g, 0, none⟩) n cp3) n ((yA0 es i).map (Value.int .i64)) := by rw [← hW5]; exact World.ownsRow.alloc hro' _
   have x1 := jc hX5 1 rfl; have x2 := jc hX5 2 rfl; have hXs : X < W5.heap.size := jl hX5; have hgs5 : g < W5.heap.size := jt hgs hb5.size; have hdc : d ≤ cp3 := ju hdl h31; have hdc' : (d : Int) ≤ cp3 := by omega
   obtain ⟨i0, hii, hz0, hz1, hz2⟩ := info_parts yDT; have HB5 := jh (hb9.trans (hb5.mono hb9.size)); obtain ⟨olds, holds⟩ := je (((yA0 es i).take d).map (Value.int .i64)); have HLN : Hid (olds.length = d * 1) := jh (by rw [← holds, List.length_map, List.length_take, hn, Nat.mul_one]; omega); have HALLC : Hid (∀ b : Addr, some (⟨g, 0, none⟩ : Addr) = some b → ∀ (j : Nat) (u : Value), olds[j]? = some u → (W5.alloc (.cells #[.int .i64 nu] 3)).drew.cell? (b.add j) = some u) := jh fun b e j u hj => by
    injection e with e; subst e; rw [Addr.add_lit, Nat.zero_add]; refine ((((jf W5.heap.size W5).alloc (jr _) _).cell (p := ⟨g, j, none⟩) hgs5)).trans (yAq hro5 ?_); rw [← holds, List.getElem?_map, List.getElem?_take] at hj; split at hj
    ·rw [List.getElem?_map]; exact hj
    ·cases hj
   have HNW : Hid (∀ (j : Nat) (u : Value), [Value.int .i64 nu][j]? = some u → (W5.alloc (.cells #[.int .i64 nu] 3)).drew.cell? ((⟨W5.heap.size, 0, none⟩ : Addr).add j) = some u) := jh fun j u hj => by rw [Addr.add_lit, Nat.zero_add]; have hn9 := jw W5 (.cells #[.int .i64 nu] 3); show (W5.alloc _).cell? _ = _; unfold World.cell?; rw [hn9]; simpa using hj
   have HST : Hid (yA0 es (i + 1) = (yA0 es i).take d ++ [nu]) := jh hst; have HW5 := jh hW5; have HOLDS := jh holds; have hmx : d + 1 ≤ maxLen := by unfold maxLen; omega
   have hd1 : (d + 1) * 8 ≤ 140737488355328 := by omega
   clear hfit he hbg t3 hnx hrun hst hro hro' hro5 hX5 hW5 h33 hb5 hb9 holds; go_upto_region 6 with fail; rw [HW5.out]; clear hX; go_region_law (refine step_append_grows rfl (.tmp 22) (.tmp 25) 53 (by rfl) 3 i0 (.int .i64 0) 1 8 Tryz.underlying53 hii hz0 hz1 hz2 rfl (by decide) (some ⟨g, 0, none⟩) d d olds (by rfl) (fun e => by cases e) HLN.out HALLC.out ⟨W5.heap.size, 0, none⟩ 1 1 [.int .i64 nu] (by rfl) rfl HNW.out (fun u hu => by rw [List.mem_singleton.1 hu]; rfl) (by omega) hmx hd1 ?_; intro v3 w3 own3 grow3; have HO3 := jh own3; have HG3 := jh grow3; clear own3 grow3)
   all_goals
    have hb3 : Below W5.heap.size W5 w3 := (((jf W5.heap.size W5).alloc (jr _) _).drew).trans ⟨HG3.out.os, HG3.out.tape, HG3.out.output, HG3.out.size, fun j hj => HG3.out.block j (jt hj (((jf W5.heap.size W5).alloc (jr _) (.cells #[.int .i64 nu] 3)).size)) (fun e => by cases e)⟩; have HRN : Hid (Row w3 w.heap.size 3 .i64 v3 (yA0 es (i + 1))) := jh (by have h := HO3.out; rw [← HOLDS.out] at h; unfold Row; rw [HST.out, jp, List.map_append, List.length_take, Nat.min_eq_left (by omega)]; exact yQo h (ju HB5.out.size ((jf W5.heap.size W5).alloc (jr _) (.cells #[.int .i64 nu] 3)).size)); have HBN := jh (HB5.out.trans (hb3.mono HB5.out.size)); clear hb3; go_wp2_with fail; go_roundw
    case rel => exact ⟨i + 1, by go_num, hin, HBN.out, HRN.out⟩
    case measure => simp [intOf]; omega
  ·obtain rfl : i = en := by omega
   have HB9 := jh hb9; have HRO := jh hro; clear hb9 hro; go_wp2_with fail; go_ret; exact ⟨_, rfl, HRO.out, HB9.out⟩
end Go.Proofs.YtkhejkfjhddobaaGreatDoor
