/- The walk of words.Reverse. -/
import Derived.Maps.OwnSet
import Derived.Test.YtkhejkfjhddobaaGreatDoorHSpanWalkM
import Derived.Test.YtkhejkfjhddobaaGreatDoorUpWM
set_option maxRecDepth 100000
set_option maxHeartbeats 16000000
set_option linter.unusedSimpArgs false
namespace Go.Proofs.YtkhejkfjhddobaaGreatDoor
open Go.RowKit Gim
theorem yG2 (s : ByteArray) (w : World) (hs : s.size ≤ 1099511627776) :
  Calls Tryz.prog 114 #[.string s] w fun e w' => e = .returned (.int .i64 (rs s).length) ∧ Below w.heap.size w w' := by go_enter Tryz.func114, Tryz.ntmps114; go_wp2_with fail; refine (yCp _ _ hs).mono ?_; rintro e w1 ⟨v1, rfl, hr1, hb1⟩; obtain ⟨a1, c1, rfl, rd1⟩ := hr1.rd; go_wp2; go_ret; exact ⟨rfl, hb1⟩
theorem yHD (a b : Int) (w : World) : Calls Tryz.prog 72 #[.int .i64 a, .int .i64 b] w fun e w' => e = .returned (.int .i64 (if a < b then -1 else if b < a then 1 else 0)) ∧ w' = w := by
 by_cases h1 : a < b
 ·rw [if_pos h1]; go_enter Tryz.func72, Tryz.ntmps72; go_wp2; go_ret; exact ⟨rfl, rfl⟩
 ·rw [if_neg h1]; by_cases h2 : b < a
  ·rw [if_pos h2]; go_enter Tryz.func72, Tryz.ntmps72; go_wp2; go_ret; exact ⟨rfl, rfl⟩
  ·rw [if_neg h2]; go_enter Tryz.func72, Tryz.ntmps72; go_wp2; go_ret; exact ⟨rfl, rfl⟩
theorem yIH (s t : ByteArray) (w : World) (hs : s.size ≤ 1099511627776) (ht : t.size ≤ 1099511627776) :
  Calls Tryz.prog 42 #[.string s, .string t] w fun e w' => e = .returned (.int .i64 (yBa (rs s) (rs t))) ∧ Below w.heap.size w w' := by
 have ls := yAX s; have lt := yAX t; go_enter Tryz.func42, Tryz.ntmps42; go_wp2_with fail; refine (yCp _ _ hs).mono ?_; rintro e w1 ⟨v1, rfl, hr1, hb1⟩; obtain ⟨a1, c1, rfl, rd1⟩ := hr1.rd; go_wp2_with fail; refine (yCp _ _ ht).mono ?_; rintro e w2 ⟨v2, rfl, hr2, hb2⟩; obtain ⟨a2, c2, rfl, rd2⟩ := hr2.rd; have rd1 := rd1.below hb2; have hbw := hb1.trans (hb2.mono hb1.size); obtain ⟨l, hl⟩ : ∃ l, l = rs s := ⟨_, rfl⟩
 obtain ⟨t', ht'⟩ : ∃ l, l = rs t := ⟨_, rfl⟩
 rw [← hl] at rd1 ls ⊢; rw [← ht'] at rd2 lt ⊢; have HO := jh (show yBa (rs s) (rs t) = yBa l t' by rw [hl, ht']); obtain ⟨n, hn⟩ : ∃ n, n = l.length := ⟨_, rfl⟩
 obtain ⟨m, hm⟩ : ∃ m, m = t'.length := ⟨_, rfl⟩
 have HN := jh hn; have HM := jh hm; rw [← hn] at rd1 ls ⊢; rw [← hm] at rd2 lt ⊢; clear hl ht' hr1 hr2 hb1 hb2 hn hm; go_wp2; go_loopw [7] (fun y wr => ∃ i : Nat, y = .int .i64 i ∧ i ≤ n ∧ i ≤ m ∧ yAJ w2 wr ∧ Hid (∀ j, j < i → gt l j = gt t' j)) (fun y _ => n - (intOf y).toNat)
 case atStart => exact ⟨0, rfl, by omega, by omega, yAJ.refl _, jh (fun j hj => by omega)⟩
 case round =>
  obtain ⟨i, rfl, hin, him, hd, H⟩ := hrel; by_cases h1 : i < n
  ·by_cases h2 : i < m
   ·obtain ⟨b, o, rfl, hb, hc⟩ := (rd1.below (hd.below _)).cell i h1; obtain ⟨b2, o2, rfl, hb2, hc2⟩ := (rd2.below (hd.below _)).cell i h2; have k1 := hc i h1; have k2 := hc2 i h2; obtain ⟨x, hx⟩ : ∃ x, x = gt l i := ⟨_, rfl⟩
    obtain ⟨y, hy⟩ : ∃ y, y = gt t' i := ⟨_, rfl⟩
    have HX := jh hx; have HY := jh hy; rw [← hx] at k1; rw [← hy] at k2; have K1 := jh (fun nq => show (wr.drewN nq).cell? ⟨b, o + i, none⟩ = some (.int .i32 x) from k1); have K2 := jh (fun nq => show (wr.drewN nq).cell? ⟨b2, o2 + i, none⟩ = some (.int .i32 y) from k2); clear hx hy hc hc2; by_cases hlt : x < y
    ·have HE := jh (HO.out.trans (yQD (by rw [← HN.out]; exact h1) (by rw [← HM.out]; exact h2) H.out (by rw [← HX.out, ← HY.out]; exact hlt))); go_wp2; go_quiet (fail); go_wp2; go_ret; exact ⟨by rw [HE.out]; rfl, hbw.trans ((hd.drewN nq).below _)⟩
    ·by_cases hgt : y < x
     ·have HE := jh (HO.out.trans (yK5 (by rw [← HN.out]; exact h1) (by rw [← HM.out]; exact h2) H.out (by rw [← HX.out, ← HY.out]; exact hgt))); have d1 : decide (x < y) = false := by simp; omega
      have d2 : decide (y < x) = true := by simp; omega
      go_wp2; go_quiet (fail); obtain ⟨wq, hq⟩ : ∃ wq, wq = wr.drewN nq := ⟨_, rfl⟩
      have k1 := K1.out nq; have k2 := K2.out nq; have hdq := hd.drewN nq; rw [← hq] at k1 k2 hdq ⊢; clear hq; go_wp2; go_quiet (fail); go_wp2; go_ret; exact ⟨by rw [HE.out]; rfl, hbw.trans ((hdq.drewN _).below _)⟩
     ·have HQ := jh (fun j (hj : j < i + 1) => show gt l j = gt t' j by
       by_cases hji : j = i
       ·rw [hji, ← HX.out, ← HY.out]; omega
       ·exact H.out j (by omega))
      have d1 : decide (x < y) = false := by simp; omega
      have d2 : decide (y < x) = false := by simp; omega
      go_wp2; go_quiet (fail); obtain ⟨wq, hq⟩ : ∃ wq, wq = wr.drewN nq := ⟨_, rfl⟩
      have k1 := K1.out nq; have k2 := K2.out nq; have hdq := hd.drewN nq; rw [← hq] at k1 k2 hdq ⊢; clear hq; go_wp2; go_quiet (fail); go_wp2; go_roundw
      case rel => exact ⟨i + 1, by go_num, by omega, by omega, hdq.drewN _, HQ⟩
      case measure => simp [intOf]; omega
   ·have hE : yBa l t' = if (n : Int) < m then -1 else if (m : Int) < n then 1 else 0 := by rw [if_neg (by omega), if_pos (by omega)]; exact yPH (fun j hj => H.out j (by rw [← HM.out] at hj; omega)) (by rw [← HN.out, ← HM.out]; omega)
    have cO := yHD n m wr; obtain ⟨z, hz⟩ : ∃ z : Int, z = if (n : Int) < m then -1 else if (m : Int) < n then 1 else 0 := ⟨_, rfl⟩
    rw [← hz] at hE cO; have HE := jh (HO.out.trans hE); clear hE H hz; go_wp2_with fail; refine cO.mono ?_; rintro e w3 ⟨rfl, rfl⟩; go_wp2; go_ret; exact ⟨by rw [HE.out]; rfl, hbw.trans (hd.below _)⟩
  ·have hE : yBa l t' = if (n : Int) < m then -1 else if (m : Int) < n then 1 else 0 := by
    by_cases hnm : n < m
    ·rw [if_pos (by omega)]; exact yNm (fun j hj => H.out j (by rw [← HN.out] at hj; omega)) (by rw [← HN.out, ← HM.out]; omega)
    ·rw [if_neg (by omega), if_neg (by omega)]; have hlt : l = t' := yS8 (by rw [← HN.out, ← HM.out]; omega) (fun j hj => H.out j (by rw [← HN.out] at hj; omega)); rw [hlt]; exact yGB _
   have cO := yHD n m wr; obtain ⟨z, hz⟩ : ∃ z : Int, z = if (n : Int) < m then -1 else if (m : Int) < n then 1 else 0 := ⟨_, rfl⟩
   rw [← hz] at hE cO; have HE := jh (HO.out.trans hE); clear hE H hz; go_wp2_with fail; refine cO.mono ?_; rintro e w3 ⟨rfl, rfl⟩; go_wp2; go_ret; exact ⟨by rw [HE.out]; rfl, hbw.trans (hd.below _)⟩
theorem yRN {l : List (ByteArray × ByteArray)} {i : Nat} (h0 : 0 < i) (h1 : yBm (l.getD (i - 1) za).1 = true) (h2 : yBm (l.getD i za).1 = true) (h3 : yCe (l.getD i za).2 = true) : atB l i = decide (yBa (rs (l.getD (i - 1) za).1) (rs (l.getD i za).1) < 0) := by unfold atB; rw [h2, h3, yPG h1 h2, decide_eq_false (show ¬ i = 0 by omega)]; simp
section
attribute [local irreducible] Go.wpQuiet
attribute [local go_sem ↓] Go.wp_at_zero Go.wp_at_succ
theorem yMw {ats : List (ByteArray × ByteArray)} {aa : Option Addr} {an ac : Nat} (w : World) (hA : yAO w ats aa an ac) (hsz : ∀ x ∈ ats, x.1.size ≤ 1099511627776 ∧ x.2.size ≤ 1099511627776) (han : an ≤ 1099511627776) :
  Calls Tryz.prog 20 #[.slice aa an ac] w fun e w' => e = .returned (.bool (yD0 ats)) ∧ Below w.heap.size w w' := by
 have HA := jh hA; have hlen := hA.len; have HZ : Hid (∀ i, i < an → (ats.getD i za).1.size ≤ 1099511627776 ∧ (ats.getD i za).2.size ≤ 1099511627776) := jh fun i hi => by
  have hil : i < ats.length := by omega
  exact hsz _ (by rw [jg, jk hil]; exact List.getElem_mem hil)
 have HL := jh hlen; have hle := hA.le; have hcl := hA.cap_le; clear hA hsz hlen; go_enter Tryz.func20, Tryz.ntmps20; go_wp2_with fail; go_loopw [3] (fun v wr => ∃ i : Nat, v = .int .i64 i ∧ i ≤ an ∧ Below w.heap.size w wr ∧ Hid (yDm ats i = true)) (fun v _ => an - (intOf v).toNat)
 case atStart => exact ⟨0, rfl, jz _, jf _ _, jh rfl⟩
 case round =>
  obtain ⟨i, rfl, hi, hb9, HT⟩ := hrel; by_cases hin : i < an
  ·have hin' : (i : Int) < an := by omega
   obtain ⟨b, o, rfl, hbs, g1, g2⟩ := yCa (HA.out.below hb9) hin; obtain ⟨n, hn⟩ : ∃ n, n = (ats.getD i za).1 := ⟨_, rfl⟩
   obtain ⟨v, hv⟩ : ∃ v, v = (ats.getD i za).2 := ⟨_, rfl⟩
   obtain ⟨z1, z2⟩ := HZ.out i hin; have HN := jh hn; have HV := jh hv; rw [← hn] at g1 z1; rw [← hv] at g2 z2; clear hn hv; go_wp2_with fail; refine (yFe n wr (by omega)).mono ?_; rintro e w1 ⟨rfl, hb1⟩; have HB1 := jh (hb9.trans (hb1.mono hb9.size)); have g2' := (hb1.cell (p := ⟨b, o + i * 2 + 1, none⟩) hbs).trans g2; cases hN : yBm n with
   | false =>
    have HF := jh (yDu (l := ats) (n := i) (by rw [HL.out]; exact hin) (by unfold atB; rw [← HN.out, hN]; rfl)); clear hb1 hb9; go_wp2_with fail; go_ret; exact ⟨by rw [HF.out]; first | done | rfl, HB1.out⟩
   | true =>
    clear g1 g2 hb9 hb1; go_wp2_with fail; refine (yEn v w1 (by omega)).mono ?_; rintro e w2 ⟨rfl, hb2⟩; have HB2 := jh (HB1.out.trans (hb2.mono HB1.out.size)); cases hV : yCe v with
    | false =>
     have HF := jh (yDu (l := ats) (n := i) (by rw [HL.out]; exact hin) (by unfold atB; rw [← HV.out, hV]; simp)); clear hb2; go_wp2_with fail; go_ret; exact ⟨by rw [HF.out]; first | done | rfl, HB2.out⟩
    | true =>
     clear g2' hb2 hbs; go_upto_region 6 with fail; obtain ⟨b', o', e', hbs, g1, _⟩ := yCa (HA.out.below HB2.out) hin; injection e' with e'; injection e' with e1 e2; subst e1 e2; rw [← HN.out] at g1; have u1 := yAt hbs g1; by_cases hi0 : 0 < i
     ·obtain ⟨q, hq⟩ : ∃ q, i = q + 1 := ⟨i - 1, by omega⟩
      obtain ⟨b', o', e', hbs', g3, _⟩ := yCa (HA.out.below HB2.out) (i := q) (by omega); injection e' with e'
      injection e' with e1 e2; subst e1 e2; have HM : Hid (atB ats i = decide (yBa (rs (ats.getD q za).1) (rs n) < 0)) := jh (by
       have hq' : i - 1 = q := by omega
       have := HT.out; rw [hq, yD5, jb] at this; have h2 := this.2; unfold atB at h2; simp only [jb] at h2; have h3 := yRN (l := ats) hi0 (by rw [hq']; exact h2.1.1) (by rw [← HN.out]; exact hN) (by rw [← HV.out]; exact hV); rw [hq', ← HN.out] at h3; exact h3)
      have z3 := (HZ.out q (by omega)).1; obtain ⟨m, hm⟩ : ∃ m, m = (ats.getD q za).1 := ⟨_, rfl⟩
      rw [← hm] at g3 HM z3; have u5 := yAt hbs g3; obtain ⟨x, hx⟩ := je (yBa (rs m) (rs n)); rw [hx] at HM; have hcc : Hid (∀ p : UpW w2, Calls Tryz.prog 42 #[.string m, .string n] p.W fun e w'' => e = .returned (.int .i64 x) ∧ ∃ q : UpW w2, w'' = q.W) := jh fun p => yCO (by have := yIH m n p.W z3 z1; rwa [hx] at this)
      have f2 : IntKind.i64.wrap ((i : Int) - 1) = (q : Int) := by rw [show ((i : Int) - 1) = (q : Int) by omega]; exact IntWalk.i64_in _ (by omega)
      have f4 : (q : Int) < an := by omega
      have f5 : (0 : Int) < (i : Int) := by omega
      have HQ := jh hq; clear hq hm hx g1 g3; by_cases hx0 : 0 ≤ x
      ·have HF := jh (yDu (l := ats) (n := i) (by rw [HL.out]; exact hin) (by rw [HM.out]; exact decide_eq_false (by omega))); refine yA1 (by kernel_rfl) (by kernel_rfl) ?_
       iterate 17 (quiet_step (first | (go_at_call 42; with_reducible exact hcc.out _)))
       refine wpQuiet_nil ?_; intro _ hw'; obtain ⟨⟨w6, hb6⟩, hw''⟩ := hw'; subst hw''; have HB6 := jh (HB2.out.trans (hb6.mono HB2.out.size)); clear hb6 u1 u5; go_wp2_with fail; go_ret; exact ⟨by rw [HF.out]; first | done | rfl, HB6.out⟩
      ·have HF := jh (show yDm ats (i + 1) = true by rw [yD5, HT.out, HM.out, decide_eq_true (by omega)]; rfl); refine yA1 (by kernel_rfl) (by kernel_rfl) ?_
       iterate 17 (quiet_step (first | (go_at_call 42; with_reducible exact hcc.out _)))
       refine wpQuiet_nil ?_; intro _ hw'; obtain ⟨⟨w6, hb6⟩, hw''⟩ := hw'; subst hw''; have HB6 := jh (HB2.out.trans (hb6.mono HB2.out.size)); clear hb6 u1 u5; go_wp2_with fail; go_roundw
       case rel => exact ⟨i + 1, by simp, by omega, HB6.out, HF⟩
       case measure => simp [intOf]; omega
     ·have HF := jh (show yDm ats (i + 1) = true by rw [yD5, HT.out]; unfold atB; rw [← HN.out, ← HV.out, hN, hV, decide_eq_true (show i = 0 by omega)]; rfl); have f5 : (0 < i) = False := eq_false hi0; clear g1; refine yA1 (by kernel_rfl) (by kernel_rfl) ?_
      iterate 17 (quiet_step (fail))
      refine wpQuiet_nil ?_; intro _ hw'; obtain ⟨⟨w6, hb6⟩, hw''⟩ := hw'; subst hw''; have HB6 := jh (HB2.out.trans (hb6.mono HB2.out.size)); clear hb6 u1; go_wp2_with fail; go_roundw
      case rel => exact ⟨i + 1, by simp, by omega, HB6.out, HF⟩
      case measure => simp [intOf]; omega
  ·have e : i = an := by omega
   subst e; have HF := jh (show yD0 ats = true by unfold yD0; rw [HL.out]; exact HT.out); have HB9 := jh hb9; clear hb9; go_wp2_with fail; go_ret; exact ⟨by rw [HF.out]; first | done | rfl, HB9.out⟩
end
end Go.Proofs.YtkhejkfjhddobaaGreatDoor
namespace Gim
open Go Go.RowKit
structure yGL (es : List EvD) (i : Nat) (s : CkS) (op : List Nat) : Prop where
 beg : yA6 ck0 (es.take i) = some s
 le : i ≤ es.length
 len : op.length = s.os.length
 at_ : ∀ (j k : Nat), op[j]? = some k → k < i ∧ ∃ x, es[k]? = some x ∧ s.os[j]? = some (x.num, x.dep, x.nm)
 tx : 0 < i → ∃ x, es[i - 1]? = some x ∧ (s.tx = true ↔ x.kd = 1)
 dn : s.dn = decide (0 < i ∧ s.os.length = 0)
 num : 0 ≤ s.num ∧ s.num ≤ i
 osl : s.os.length ≤ i
theorem yTo (es : List EvD) : yGL es 0 ck0 [] :=
 ⟨rfl, jz _, rfl, fun j k h => by simp at h, fun h => absurd h (Nat.lt_irrefl _), rfl, ⟨Int.le_refl _, Int.le_refl _⟩, jr _⟩
def opN (op : List Nat) (i : Nat) (kd : Int) : List Nat := if kd = 0 then op ++ [i] else if kd = 1 then op else op.dropLast
theorem yGL.next {es : List EvD} {i : Nat} {s : CkS} {op : List Nat} (h : yGL es i s op) {e : EvD} (he : es[i]? = some e) (hn : yAI s e = true) : yGL es (i + 1) (stp s e) (opN op i e.kd) := by
 have hi := (ji.1 he).1; have hok := yEO _ yIT h.beg; have hb : yA6 ck0 (es.take (i + 1)) = some (stp s e) := by rw [yJz he, h.beg]; show (if yAI s e then some (stp s e) else none) = _; rw [hn]; rfl
 have hdn : s.dn = false := by unfold yAI at hn; rw [jb] at hn; simpa using hn.1
 have hl := h.len; have hnum := h.num; have hosl := h.osl; have hat : ∀ (j k : Nat), op[j]? = some k → k < i + 1 ∧ ∃ x, es[k]? = some x ∧ s.os[j]? = some (x.num, x.dep, x.nm) := fun j k hj => ⟨Nat.lt_succ_of_lt (h.at_ j k hj).1, (h.at_ j k hj).2⟩
 have hk : yAI s e = (!s.dn && (if e.kd = 0 then yDe s e && (decide (0 < s.os.length) || decide (s.num = 0)) else if e.kd = 1 then yCR s e else if e.kd = 2 then yFr s e else false)) := rfl; rw [hn, hdn] at hk; by_cases h0 : e.kd = 0
 ·have es0 : stp s e = ⟨s.os ++ [(e.num, e.dep, e.nm)], s.num + 1, false, s.dn⟩ := by unfold stp; rw [if_pos h0]
  have eo : opN op i e.kd = op ++ [i] := by unfold opN; rw [if_pos h0]
  rw [es0] at hb ⊢; rw [eo]; refine ⟨hb, hi, by simp [hl], fun j k hj => ?_, fun _ => ⟨e, by rw [Nat.add_sub_cancel]; exact he, ?_⟩, ?_, ⟨by show 0 ≤ s.num + 1; omega, by show s.num + 1 ≤ ((i + 1 : Nat) : Int); omega⟩, by simp; omega⟩
  ·by_cases hjl : j < op.length
   ·rw [List.getElem?_append_left hjl] at hj; obtain ⟨h1, x, h2, h3⟩ := hat j k hj; exact ⟨h1, x, h2, by show (s.os ++ _)[j]? = _; rw [List.getElem?_append_left (by omega)]; exact h3⟩
   ·have hlt := (ji.1 hj).1; rw [jp, List.length_singleton] at hlt; have hj' : j = op.length := by omega
    subst hj'; rw [List.getElem?_append_right (jr _), Nat.sub_self] at hj; simp only [List.getElem?_cons_zero, Option.some.injEq] at hj; subst hj; refine ⟨Nat.lt_succ_self _, e, he, ?_⟩; show (s.os ++ _)[_]? = _; rw [hl, List.getElem?_append_right (jr _), Nat.sub_self]; rfl
  ·constructor
   ·intro h; cases h
   ·intro h; rw [h0] at h; cases h
  ·show s.dn = _; rw [hdn]; simp
 ·by_cases h1 : e.kd = 1
  ·have es0 : stp s e = ⟨s.os, s.num + 1, true, s.dn⟩ := by unfold stp; rw [if_neg h0, if_pos h1]
   have eo : opN op i e.kd = op := by unfold opN; rw [if_neg h0, if_pos h1]
   rw [es0] at hb ⊢; rw [eo]; rw [if_neg h0, if_pos h1] at hk; have ht : 0 < s.os.length := by have hk := hk.symm; simp only [yCR, Bool.not_false, Bool.true_and, jb, decide_eq_true_eq] at hk; exact hk.1.1.1.1.1.2
   refine ⟨hb, hi, hl, hat, fun _ => ⟨e, by rw [Nat.add_sub_cancel]; exact he, ?_⟩, ?_, ⟨by show 0 ≤ s.num + 1; omega, by show s.num + 1 ≤ ((i + 1 : Nat) : Int); omega⟩, by show s.os.length ≤ i + 1; omega⟩
   ·exact ⟨fun _ => h1, fun _ => rfl⟩
   ·show s.dn = decide (0 < i + 1 ∧ s.os.length = 0); rw [hdn, decide_eq_false (by omega)]
  ·have es0 : stp s e = ⟨s.os.dropLast, s.num, false, decide (s.os.length = 1)⟩ := by unfold stp; rw [if_neg h0, if_neg h1]
   have eo : opN op i e.kd = op.dropLast := by unfold opN; rw [if_neg h0, if_neg h1]
   rw [es0] at hb ⊢; rw [eo]; rw [if_neg h0, if_neg h1] at hk; have ht : 0 < s.os.length := by
    by_cases h2 : e.kd = 2
    ·rw [if_pos h2] at hk; have hk := hk.symm; simp only [yFr, Bool.not_false, Bool.true_and, jb, decide_eq_true_eq] at hk; exact hk.1
    ·rw [if_neg h2] at hk; cases hk
   refine ⟨hb, hi, by rw [List.length_dropLast, List.length_dropLast, hl], fun j k hj => ?_, fun _ => ⟨e, by rw [Nat.add_sub_cancel]; exact he, ?_⟩, ?_, ⟨hnum.1, by show s.num ≤ ((i + 1 : Nat) : Int); omega⟩, by show s.os.dropLast.length ≤ i + 1; rw [List.length_dropLast]; omega⟩
   ·rw [List.getElem?_dropLast] at hj; split at hj
    ·obtain ⟨h1, x, h2, h3⟩ := hat j k hj; refine ⟨h1, x, h2, ?_⟩; show s.os.dropLast[j]? = _; rw [List.getElem?_dropLast, if_pos (by omega)]; exact h3
    ·cases hj
   ·constructor
    ·intro h; cases h
    ·intro h; exact absurd h h1
   ·show decide (s.os.length = 1) = decide (0 < i + 1 ∧ s.os.dropLast.length = 0); rw [List.length_dropLast]; congr 1; simp only [eq_iff_iff]; omega
theorem yGL.fail {es : List EvD} {i : Nat} {s : CkS} {op : List Nat} (h : yGL es i s op) {e : EvD} (he : es[i]? = some e) (hn : yAI s e = false) : yIt es = false := by
 unfold yIt; cases hb : yA6 ck0 es with
 | none => rfl
 | some s' =>
  obtain ⟨t, h1, h2, _⟩ := yCC hb he; rw [h.beg] at h1; injection h1 with h1
  subst h1; rw [hn] at h2; cases h2
theorem yGL.whole {es : List EvD} {s : CkS} {op : List Nat} (h : yGL es es.length s op) : yIt es = true := by unfold yIt; have := h.beg; rw [List.take_length] at this; rw [this]; rfl
theorem yGL.opn {es : List EvD} {i : Nat} {s : CkS} {op : List Nat} (h : yGL es i s op) (hd : s.dn = false) {e : EvD} (h0 : e.kd = 0) : yAI s e = yDe s e := by
 have hok := yEO _ yIT h.beg; unfold yAI; rw [hd, if_pos h0]; have : (decide (0 < s.os.length) || decide (s.num = 0)) = true := by
  by_cases hl : s.os = []
  ·rcases hok.some_ hl with h1 | h1
   ·rw [h1]; simp
   ·rw [hd] at h1; cases h1
  ·rw [decide_eq_true (List.length_pos_iff.2 hl)]; rfl
 rw [this]; simp
theorem yO9 {s : CkS} (hd : s.dn = false) {e : EvD} (h1 : e.kd = 1) : yAI s e = yCR s e := by unfold yAI; rw [hd, if_neg (by omega), if_pos h1]; rfl
theorem yPm {s : CkS} (hd : s.dn = false) {e : EvD} (h1 : e.kd = 2) : yAI s e = yFr s e := by unfold yAI; rw [hd, if_neg (by omega), if_neg (by omega), if_pos h1]; rfl
theorem yQ7 {s : CkS} {e : EvD} (h0 : ¬ e.kd = 0) (h1 : ¬ e.kd = 1) (h2 : ¬ e.kd = 2) : yAI s e = false := by unfold yAI; rw [if_neg h0, if_neg h1, if_neg h2]; simp
theorem yTl {s : CkS} {e : EvD} (h : s.dn = true) : yAI s e = false := by unfold yAI; rw [h]; rfl
theorem yE4 {es : List EvD} {s : CkS} {P : Prop} (h : yIt es = false) (hs : yA6 ck0 es = some s) : P := by unfold yIt at h; rw [hs] at h; cases h
theorem yGL.last {es : List EvD} {i : Nat} {s : CkS} {op : List Nat} (h : yGL es i s op) (hi : es.length = i) {t : CkS} (ht : yA6 ck0 es = some t) : t.dn = decide (0 < i ∧ op.length = 0) := by have hb := h.beg; rw [← hi, List.take_length, ht] at hb; injection hb with hb; rw [hb, h.dn, h.len]
end Gim
