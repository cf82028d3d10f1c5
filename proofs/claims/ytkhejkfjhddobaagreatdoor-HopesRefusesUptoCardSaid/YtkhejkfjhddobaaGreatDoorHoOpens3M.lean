/- (*Check).opens of gimlet/tree, for any event. -/
import Derived.Test.YtkhejkfjhddobaaGreatDoorHoEntriesM
set_option maxRecDepth 100000
set_option maxHeartbeats 32000000
namespace Go.Proofs.YtkhejkfjhddobaaGreatDoor
open Go.RowKit Gim
section
attribute [local irreducible] Go.wpQuiet
attribute [local go_sem ↓] Go.wp_at_zero Go.wp_at_succ
theorem yQv {tg : Nat → Nat × Nat} {K : Nat} {vO : Value} {en : Nat} {es : List Value} {num : Int} {tx0 dn : Bool} (kd nu dp : Int) (nm tx : ByteArray) (ats : List (ByteArray × ByteArray)) (aa : Option Addr) (an ac : Nat) (c6 c7 : Value) (w : World) (h : yE9 w tg K vO en es num tx0 dn) (hT : yBd w) (hs : nm.size ≤ 9223372036854775807) (hen : en ≤ 1099511627776)
  (hA : yAO w ats aa an ac) (hsz : ∀ x ∈ ats, x.1.size ≤ 9223372036854775807 ∧ x.2.size ≤ 9223372036854775807) (han : an ≤ 1099511627776) :
  Calls Tryz.prog 55 #[.pointer (some ⟨K, 0, none⟩), .agg #[.int .i64 kd, .int .i64 nu, .int .i64 dp, .string nm, .slice aa an ac, .string tx, c6, c7]] w fun e w' => e = .returned (.bool (decide (nu = num) && decide (dp = (en : Int) + 1) && decide (tx = ⟨#[]⟩) && yBm nm && yD0 ats)) ∧ Below w.heap.size w w' := by
 obtain ⟨W1, hW1⟩ := je (w.alloc (.cells #[.int .i64 kd, .int .i64 nu, .int .i64 dp, .string nm, .slice aa an ac, .string tx, c6, c7] 45)); have b1 : Below w.heap.size w W1 := by rw [← hW1]; exact (jf _ _).alloc (jr _) _
 have hX1 : W1.heap[w.heap.size]? = some (.cells #[.int .i64 kd, .int .i64 nu, .int .i64 dp, .string nm, .slice aa an ac, .string tx, c6, c7] 45) := by rw [← hW1]; exact jw _ _
 obtain ⟨oa, oc, rfl, _⟩ := yAb h.row; have hK1 := (b1.block K (jl h.hK)).trans h.hK; have y1 := jc hX1 1 rfl; have y2 := jc hX1 2 rfl; have y3 := jc hX1 3 rfl; have y4 := jc hX1 4 rfl; have y5 := jc hX1 5 rfl; have k0 := jc hK1 0 rfl; have k1 := jc hK1 1 rfl; have h1s : w.heap.size < W1.heap.size := jl hX1; have hK1s : K < W1.heap.size := jl hK1; obtain ⟨nb, hnb⟩ := je (yBm nm); have HNM : Hid (∀ W, Below W1.heap.size W1 W → Calls Tryz.prog 75 #[.string nm] W fun e w' => e = .returned (.bool nb) ∧ Below W.heap.size W w') := jh fun W hW => by have := yCF nm W hs ((hT.below b1).below hW); rw [hnb] at this; exact this
 have HAT : Hid (∀ i, i < an → ∃ b o n v m n1 n2 lo, aa = some ⟨b, o, none⟩ ∧ atB ats i = (n1 && n2 && (decide (i = 0) || lo)) ∧ Op.bytesLess m.toList n.toList = lo ∧ (∀ W, Below w.heap.size w W → b < W.heap.size ∧ W.cell? ⟨b, o + i * 2, none⟩ = some (.string n) ∧ W.cell? ⟨b, o + i * 2 + 1, none⟩ = some (.string v) ∧
   Calls Tryz.prog 75 #[.string n] W (fun e w' => e = .returned (.bool n1) ∧ Below W.heap.size W w') ∧ Calls Tryz.prog 56 #[.string v] W (fun e w' => e = .returned (.bool n2) ∧ Below W.heap.size W w') ∧
   (0 < i → W.cell? ⟨b, o + (i - 1) * 2, none⟩ = some (.string m)))) := jh fun i hi => by
  obtain ⟨b, o, e, hbs, _⟩ := yCa hA hi; have hil : i < ats.length := by rw [hA.len]; exact hi
  have hm : ats.getD i za ∈ ats := by rw [jg, jk hil]; exact List.getElem_mem hil
  have hz := hsz _ hm; refine ⟨b, o, (ats.getD i za).1, (ats.getD i za).2, (ats.getD (i - 1) za).1, _, _, _, e, rfl, rfl, fun W hW => ?_⟩; have hAW := hA.below hW; obtain ⟨b', o', e', hbs', g1, g2⟩ := yCa hAW hi; have eo : b' = b ∧ o' = o := by rw [e] at e'; injection e' with e'; injection e' with e1 e2; exact ⟨e1.symm, e2.symm⟩
  obtain ⟨rfl, rfl⟩ := eo; refine ⟨hbs', g1, g2, yCF (ats.getD i za).1 W hz.1 (hT.below hW), yDA (ats.getD i za).2 W hz.2 (hT.below hW), fun h0 => ?_⟩; obtain ⟨b2, o2, e2, _, g3, _⟩ := yCa hAW (i := i - 1) (by omega); have eo : b2 = b' ∧ o2 = o' := by rw [e] at e2; injection e2 with e2; injection e2 with e1 e2; exact ⟨e1.symm, e2.symm⟩
  obtain ⟨rfl, rfl⟩ := eo; exact g3
 obtain ⟨R, hR⟩ := je (yD0 ats); have HRT : Hid (yDm ats an = R) := jh (by rw [← hR, ← hA.len]; rfl); have HRF : Hid (∀ i, i < an → atB ats i = false → R = false) := jh fun i hi hf => by rw [← hR]; exact yDu (by rw [hA.len]; exact hi) hf
 have HTS : Hid (∀ i, yDm ats (i + 1) = (yDm ats i && atB ats i)) := jh fun i => yD5 ats i
 obtain ⟨q, hq⟩ : ∃ q, (decide (nu = num) && decide (dp = (en : Int) + 1) && decide (tx = ⟨#[]⟩) && nb) = q := ⟨_, rfl⟩
 rw [hnb, hR, hq]; have HQ := jh hq; have HLE := jh (And.intro hA.le hA.cap_le); have HB1 := jh b1; have HX1 := jh hX1; have HW1 := jh hW1; have HAN := jh han; have e4 : IntKind.i64.wrap ((en : Int) + 1) = (en : Int) + 1 := IntWalk.i64_in _ (by omega); clear hX1 b1 hW1 hK1 h hT hs hA hsz han hnb hR hq; go_enter Tryz.func55, Tryz.ntmps55; go_upto_region 1 with fail; rw [HW1.out]; go_cut [35] from 7 to 35 (fun v wx => v = .bool (!q) ∧ Below W1.heap.size W1 wx)
 case first =>
  have u1 := yAt h1s y1; have u2 := yAt h1s y2; have u3 := yAt h1s y3; have u5 := yAt h1s y5; have v0 := yAt hK1s k0; have v1 := yAt hK1s k1; have hcn : Hid (∀ p : UpW W1, Calls Tryz.prog 75 #[.string nm] p.W fun e w'' => e = .returned (.bool nb) ∧ ∃ q : UpW W1, w'' = q.W) := jh fun p => yCO (HNM.out _ p.h)
  clear y1 y2 y3 y4 y5 k0 k1; by_cases a1 : nu = num
  case' neg =>
   have hqq : Hid (false = q) := jh (by rw [← HQ.out, decide_eq_false a1]; simp); have f1 : (nu != num) = true := by simp [a1]
   clear a1
  case' pos =>
   by_cases a2 : dp = (en : Int) + 1
   case' neg =>
    have hqq : Hid (false = q) := jh (by rw [← HQ.out, decide_eq_false a2]; simp); have f2 : (dp != (en : Int) + 1) = true := by simp [a2]
    clear a2; subst a1; have f1 : (nu != nu) = false := by simp
   case' pos =>
    by_cases a3 : tx = ⟨#[]⟩
    case' neg =>
     have hqq : Hid (false = q) := jh (by rw [← HQ.out, decide_eq_false a3]; simp); have a3' : ¬ tx.toList = [] := yAW a3; have f3 : (tx.toList != []) = true := by simp [a3']
     have f4 : (tx.toList == []) = false := by simp [a3']
     clear a3 a3'; subst a1 a2; have f1 : (nu != nu) = false := by simp
     have f2 : ((en : Int) + 1 != (en : Int) + 1) = false := by simp
    case' pos =>
     have hqq : Hid (nb = q) := jh (by rw [← HQ.out, decide_eq_true a1, decide_eq_true a2, decide_eq_true a3]; simp); subst a1 a2 a3; have f1 : (nu != nu) = false := by simp
     have f2 : ((en : Int) + 1 != (en : Int) + 1) = false := by simp
  all_goals
   clear HQ; refine yA1 (by kernel_rfl) (by kernel_rfl) ?_
   iterate 29 (quiet_step (first | (go_at_call 75; with_reducible exact hcn.out _)))
   refine wpQuiet_nil ?_; intro _ hw'; obtain ⟨⟨w6, hb6⟩, hw''⟩ := hw'; subst hw''; go_wp2_with fail; go_meet; exact ⟨by rw [← hqq.out]; try rfl, hb6⟩
 case rest =>
 obtain ⟨rfl, hb13⟩ := hcut; have HBF := jh (HB1.out.trans (hb13.mono HB1.out.size)); have HX13 := jh ((hb13.block _ h1s).trans HX1.out)
 replace y4 := (hb13.cell (p := ⟨w.heap.size, 4, none⟩) h1s).trans y4
 have h1c : w.heap.size < wc.heap.size := jt h1s hb13.size; clear e4 k0 k1 y1 y2 y3 y5 hb13 HQ; cases q
 case false =>
  go_wp2_with fail; go_ret; exact ⟨rfl, HBF.out⟩
 go_wp2_with fail; clear y4; go_loopw [39] (fun v wr => ∃ i : Nat, v = .int .i64 i ∧ i ≤ an ∧ yDm ats i = true ∧ Below w.heap.size w wr ∧ wr.heap[w.heap.size]? = some (.cells #[.int .i64 kd, .int .i64 nu, .int .i64 dp, .string nm, .slice aa an ac, .string tx, c6, c7] 45)) (fun v _ => an - (intOf v).toNat)
 case atStart => exact ⟨0, rfl, jz _, rfl, HBF.out, HX13.out⟩
 case round =>
  obtain ⟨i, rfl, hi, hto, hb9, hX9⟩ := hrel; have HTO := jh hto; clear hto; by_cases hin : i < an
  ·obtain ⟨b, o, n, v, m, n1, n2, lo, rfl, hat, hlo, hW⟩ := HAT.out i hin; have hin' : (i : Int) < an := by omega
   have hanl := HAN.out; have HB9 := jh hb9; have HX9 := jh hX9; have hX9s : w.heap.size < wr.heap.size := jl hX9; obtain ⟨g0, g1, g2, _, _, _⟩ := hW wr hb9; have hle := HLE.out.1; have HW := jh hW; have HA := jh hat; clear hW hb9 hX9 hat; go_upto_region 6 with fail; have HB5 : Hid (Below w.heap.size w (wr.alloc (.cells #[.string n, .string v] 61))) := jh (HB9.out.trans ((jf _ _).alloc HB9.out.size _)); have HX5 : Hid ((wr.alloc (.cells #[.string n, .string v] 61)).heap[w.heap.size]? = some (.cells #[.int .i64 kd, .int .i64 nu, .int .i64 dp, .string nm, .slice (some ⟨b, o, none⟩) an ac, .string tx, c6, c7] 45)) := jh (by rw [heap_alloc_old _ _ hX9s]; exact HX9.out); have h5s : wr.heap.size < (wr.alloc (.cells #[.string n, .string v] 61)).heap.size := by rw [World.size_alloc]; exact Nat.lt_succ_self _
   have x0 : (wr.alloc (.cells #[.string n, .string v] 61)).cell? ⟨wr.heap.size, 0, none⟩ = some (.string n) := by unfold World.cell?; rw [jw]; rfl
   have x1 : (wr.alloc (.cells #[.string n, .string v] 61)).cell? ⟨wr.heap.size, 1, none⟩ = some (.string v) := by unfold World.cell?; rw [jw]; rfl
   obtain ⟨W5, hW5⟩ := je (wr.alloc (.cells #[.string n, .string v] 61)); rw [hW5] at HB5 HX5 h5s x0 x1 ⊢; obtain ⟨X, hX⟩ := je (wr.heap.size); rw [hX] at h5s x0 x1 ⊢; have y4 := jc HX5.out 4 rfl; have h5w : w.heap.size < W5.heap.size := jl HX5.out; have HCN : Hid (∀ W, Below W5.heap.size W5 W → Calls Tryz.prog 75 #[.string n] W (fun e w' => e = .returned (.bool n1) ∧ Below W.heap.size W w')) := jh fun W hW => (HW.out W (HB5.out.trans (hW.mono HB5.out.size))).2.2.2.1
   have HCT : Hid (∀ W, Below W5.heap.size W5 W → Calls Tryz.prog 56 #[.string v] W (fun e w' => e = .returned (.bool n2) ∧ Below W.heap.size W w')) := jh fun W hW => (HW.out W (HB5.out.trans (hW.mono HB5.out.size))).2.2.2.2.1
   have HPV : Hid (0 < i → W5.cell? ⟨b, o + (i - 1) * 2, none⟩ = some (.string m)) := jh ((HW.out W5 HB5.out).2.2.2.2.2); have HLO := jh hlo; clear hW5 hX g0 g1 g2 HB9 HX9 hlo; obtain ⟨av, hav⟩ := je (atB ats i); have HAV : Hid (av = (n1 && n2 && (decide (i = 0) || lo))) := jh (hav.symm.trans HA.out); have HAVE := jh hav; clear hav; go_cut [69] from 44 to 69 (fun v wx => v = .bool (!av) ∧ Below W5.heap.size W5 wx)
   case first =>
    have h5b : b < W5.heap.size := (HW.out W5 HB5.out).1; have u0 := yAt h5s x0; have u1 := yAt h5s x1; have u4 := yAt h5w y4; have hcn : Hid (∀ p : UpW W5, Calls Tryz.prog 75 #[.string n] p.W fun e w'' => e = .returned (.bool n1) ∧ ∃ q : UpW W5, w'' = q.W) := jh fun p => yCO (HCN.out _ p.h)
    have hct : Hid (∀ p : UpW W5, Calls Tryz.prog 56 #[.string v] p.W fun e w'' => e = .returned (.bool n2) ∧ ∃ q : UpW W5, w'' = q.W) := jh fun p => yCO (HCT.out _ p.h)
    by_cases hi0 : 0 < i
    case' pos =>
     obtain ⟨q, hq⟩ : ∃ q, i = q + 1 := ⟨i - 1, by omega⟩
     have hm := HPV.out hi0; rw [show i - 1 = q by omega] at hm; have u5 := yAt h5b hm; have f2 : IntKind.i64.wrap ((i : Int) - 1) = (q : Int) := by rw [show ((i : Int) - 1) = (q : Int) by omega]; exact IntWalk.i64_in _ (by omega)
     have f4 : (q : Int) < an := by omega
     have f5 : (0 : Int) < (i : Int) := by omega
     have hlo := HLO.out; have hav : Hid (av = (n1 && n2 && lo)) := jh (by rw [HAV.out, decide_eq_false (show ¬ i = 0 by omega)]; simp); clear hq x0 x1 y4 hm HPV
    case' neg =>
     have f5 : (0 < i) = False := eq_false hi0; have hav : Hid (av = (n1 && n2 && true)) := jh (by rw [HAV.out, decide_eq_true (show i = 0 by omega)]; simp); clear x0 x1 y4 hi0 HPV
    all_goals
     cases n1
     all_goals cases n2
     all_goals
      refine yA1 (by kernel_rfl) (by kernel_rfl) ?_
      iterate 26 (quiet_step (first | (go_at_call 75; with_reducible exact hcn.out _) | (go_at_call 56; with_reducible exact hct.out _)))
      refine wpQuiet_nil ?_; intro _ hw'; obtain ⟨⟨w6, hb6⟩, hw''⟩ := hw'; subst hw''; go_wp2_with fail; go_meet; exact ⟨by rw [hav.out]; first | rfl | simp, hb6⟩
   case rest =>
   obtain ⟨rfl, hb8⟩ := hcut; have HRL : Hid (Below w.heap.size w wc ∧ wc.heap[w.heap.size]? = some (.cells #[.int .i64 kd, .int .i64 nu, .int .i64 dp, .string nm, .slice (some ⟨b, o, none⟩) an ac, .string tx, c6, c7] 45)) := jh ⟨HB5.out.trans (hb8.mono HB5.out.size), (hb8.block _ h5w).trans HX5.out⟩; clear hb8 x0 x1 y4 HAV; cases av
   ·have HF := jh (HRF.out i hin HAVE.out); go_wp2_with fail; go_ret; exact ⟨by rw [HF.out]; rfl, HRL.out.1⟩
   ·have HN1 : Hid (yDm ats (i + 1) = true) := jh (by rw [HTS.out, HTO.out, HAVE.out]; rfl); go_wp2_with fail; go_roundw
    case rel => exact ⟨i + 1, by simp, by omega, HN1.out, HRL.out⟩
    case measure => simp [intOf]; omega
  ·have e : i = an := by omega
   subst e; have HB9 := jh hb9; have HF : Hid (R = true) := jh (by rw [← HRT.out]; exact HTO.out); clear hb9 hX9; go_wp2_with fail; go_ret; exact ⟨by rw [HF.out]; rfl, HB9.out⟩
end
theorem ySf {s t : ByteArray} (h : ¬ s = t) : ¬ s.toList = t.toList := fun e => h (by
 have : s.data.toList = t.data.toList := by rw [← ByteArray.toList_eq, ← ByteArray.toList_eq]; exact e
 cases s
 cases t
 congr 1; exact Array.toList_inj.1 this)
section
attribute [local go_sem ↓] Go.wp_at_zero Go.wp_at_succ
theorem yNY {tg : Nat → Nat × Nat} {K : Nat} {vO : Value} {os : List (Int × Int × ByteArray)} {num : Int} {tx0 dn : Bool} (kd nu dp : Int) (nm tx : ByteArray) (aa : Option Addr) (an ac : Nat) (c6 c7 : Value) (w : World) (h : yE9 w tg K vO os.length (osC os) num tx0 dn) (hol2 : os.length ≤ 1099511627776) :
  Calls Tryz.prog 57 #[.pointer (some ⟨K, 0, none⟩), .agg #[.int .i64 kd, .int .i64 nu, .int .i64 dp, .string nm, .slice aa an ac, .string tx, c6, c7]] w fun e w' => e = .returned (.bool (decide (0 < os.length) && (decide (nu = (os.getD (os.length - 1) zo).1) && decide (dp = (os.getD (os.length - 1) zo).2.1) && decide (nm = (os.getD (os.length - 1) zo).2.2) && decide (tx = ⟨#[]⟩) && decide (an = 0)))) ∧ Below w.heap.size w w' := by
 obtain ⟨W1, hW1⟩ := je (w.alloc (.cells #[.int .i64 kd, .int .i64 nu, .int .i64 dp, .string nm, .slice aa an ac, .string tx, c6, c7] 45)); have b1 : Below w.heap.size w W1 := by rw [← hW1]; exact (jf _ _).alloc (jr _) _
 have hX1 : W1.heap[w.heap.size]? = some (.cells #[.int .i64 kd, .int .i64 nu, .int .i64 dp, .string nm, .slice aa an ac, .string tx, c6, c7] 45) := by rw [← hW1]; exact jw _ _
 have hK1 := (b1.block K (jl h.hK)).trans h.hK; have y1 := jc hX1 1 rfl; have y2 := jc hX1 2 rfl; have y3 := jc hX1 3 rfl; have y4 := jc hX1 4 rfl; have y5 := jc hX1 5 rfl; have h1s : w.heap.size < W1.heap.size := jl hX1; have hK1s : K < W1.heap.size := jl hK1; have HB1 := jh b1; have HW1 := jh hW1; obtain ⟨oa, oc, hvO, hol, hocm, hog⟩ := yAb h.row; subst hvO; have k0 := jc hK1 0 rfl; by_cases hp0 : os.length = 0
 ·have HR : Hid ((decide (0 < os.length) && (decide (nu = (os.getD (os.length - 1) zo).1) && decide (dp = (os.getD (os.length - 1) zo).2.1) && decide (nm = (os.getD (os.length - 1) zo).2.2) && decide (tx = ⟨#[]⟩) && decide (an = 0))) = false) := jh (by simp [hp0]); rw [HR.out]; rw [hp0] at k0; clear HR hX1 b1 hW1 hK1 h hog hol hol2 hp0 hocm; go_enter Tryz.func57, Tryz.ntmps57; go_upto_region 1 with fail; rw [HW1.out]; go_wp2_with fail; go_ret; exact ⟨rfl, HB1.out⟩
 ·obtain ⟨p, hp⟩ : ∃ p, os.length = p + 1 := ⟨os.length - 1, by omega⟩
  obtain ⟨g, hoa, _, hgs⟩ := hog p (by omega); subst hoa; obtain ⟨⟨n, d, onm⟩, ho⟩ : ∃ x, os.getD p zo = x := ⟨_, rfl⟩
  rw [hp] at hol k0; have hrow := h.row; rw [hp] at hrow; have hcl : ∀ (j : Nat) (v : Value), (yBP n d onm)[j]? = some v → W1.cell? ⟨g, p * 8 + j, none⟩ = some v := fun j v hj => by have e1 := yAq hrow (yMB hp (by rw [ho]; exact hj)); exact (b1.cell (p := ⟨g, _, none⟩) hgs).trans e1
  have x0 : W1.cell? ⟨g, p * 8, none⟩ = some (.int .i64 0) := hcl 0 _ rfl; have x1 : W1.cell? ⟨g, p * 8 + 1, none⟩ = some (.int .i64 n) := hcl 1 _ rfl; have x2 : W1.cell? ⟨g, p * 8 + 2, none⟩ = some (.int .i64 d) := hcl 2 _ rfl; have x3 : W1.cell? ⟨g, p * 8 + 3, none⟩ = some (.string onm) := hcl 3 _ rfl; have x4 : W1.cell? ⟨g, p * 8 + 4, none⟩ = some (.slice none 0 0) := hcl 4 _ rfl; have x5 : W1.cell? ⟨g, p * 8 + 5, none⟩ = some (.string ⟨#[]⟩) := hcl 5 _ rfl; have x6 : W1.cell? ⟨g, p * 8 + 6, none⟩ = some (.int .i64 0) := hcl 6 _ rfl; have x7 : W1.cell? ⟨g, p * 8 + 7, none⟩ = some (.int .i64 0) := hcl 7 _ rfl; have hgs1 : g < W1.heap.size := jt hgs b1.size; have e4 : IntKind.i64.wrap ((p : Int) + 1 - 1) = (p : Int) := by rw [show ((p : Int) + 1 - 1) = (p : Int) by omega]; exact IntWalk.i64_in _ (by omega)
  have e6 : IntKind.i64.wrap (p : Int) = (p : Int) := IntWalk.i64_in _ (by omega); have hpc : (p : Int) < (p : Int) + 1 := by omega
  obtain ⟨R, hR⟩ : ∃ R, (decide (nu = n) && decide (dp = d) && decide (nm = onm) && decide (tx = ⟨#[]⟩) && decide (an = 0)) = R := ⟨_, rfl⟩
  have HR0 : Hid ((decide (0 < os.length) && (decide (nu = (os.getD (os.length - 1) zo).1) && decide (dp = (os.getD (os.length - 1) zo).2.1) && decide (nm = (os.getD (os.length - 1) zo).2.2) && decide (tx = ⟨#[]⟩) && decide (an = 0))) = R) := jh (by rw [show os.length - 1 = p by omega, ho, decide_eq_true (show 0 < os.length by omega), Bool.true_and]; exact hR); rw [HR0.out]; clear HR0 hX1 b1 hW1 hK1 h hrow hcl hp ho hog hp0 hol2; by_cases a1 : nu = n
  case' neg =>
   have f1 : (nu == n) = false := jn.2 a1; have HR : Hid (R = false) := jh (by rw [← hR]; simp [a1]); clear a1
  case' pos =>
   by_cases a2 : dp = d
   case' neg =>
    have f2 : (dp == d) = false := jn.2 a2; have HR : Hid (R = false) := jh (by rw [← hR]; simp [a2]); clear a2; subst a1; have f1 : (nu == nu) = true := beq_self_eq_true _
   case' pos =>
    by_cases a3 : nm = onm
    case' neg =>
     have f3 : (nm.toList == onm.toList) = false := jn.2 (ySf a3); have HR : Hid (R = false) := jh (by rw [← hR]; simp [a3]); clear a3; subst a1 a2; have f1 : (nu == nu) = true := beq_self_eq_true _; have f2 : (dp == dp) = true := beq_self_eq_true _
    case' pos =>
     by_cases a4 : tx = ⟨#[]⟩
     case' neg =>
      have f4 : (tx.toList == []) = false := jn.2 (yAW a4); have HR : Hid (R = false) := jh (by rw [← hR]; simp [a4]); clear a4; subst a1 a2 a3; have f1 : (nu == nu) = true := beq_self_eq_true _; have f2 : (dp == dp) = true := beq_self_eq_true _
     case' pos =>
      have HR : Hid (R = ((an : Int) == 0)) := jh (by
       rw [← hR, decide_eq_true a1, decide_eq_true a2, decide_eq_true a3, decide_eq_true a4]; by_cases h : an = 0
       ·subst h; rfl
       ·rw [decide_eq_false h, jn.2 (show ¬ (an : Int) = 0 by omega)]; rfl)
      subst a1 a2 a3 a4; have f1 : (nu == nu) = true := beq_self_eq_true _; have f2 : (dp == dp) = true := beq_self_eq_true _
  all_goals
   clear hR; go_enter Tryz.func57, Tryz.ntmps57; go_upto_region 1 with fail; rw [HW1.out]; go_upto_region 3 with fail; go_region
   all_goals
    go_wp2_with fail; go_ret; exact ⟨by rw [HR.out]; first | rfl | simp, HB1.out.trans ((by first | exact ((jf _ _).alloc (jr _) _) | exact (((jf _ _).alloc (jr _) _).drew) : Below W1.heap.size W1 _).mono HB1.out.size)⟩
end
section
attribute [local irreducible] Go.wpQuiet
attribute [local go_sem ↓] Go.wp_at_zero Go.wp_at_succ
theorem yRA {tg : Nat → Nat × Nat} {K : Nat} {vO : Value} {os : List (Int × Int × ByteArray)} {num : Int} {tx0 dn : Bool} (kd nu dp : Int) (nm tx : ByteArray) (ats : List (ByteArray × ByteArray)) (c6 c7 : Int) (w : World) (h : yE9 w tg K vO os.length (osC os) num tx0 dn) (hT : yBd w) (hz : yEg ⟨kd, nu, dp, nm, ats, tx, c6, c7⟩) (hen : os.length ≤ 1048576) (hn : yAI ⟨os, num, tx0, dn⟩ ⟨kd, nu, dp, nm, ats, tx, c6, c7⟩ = false)
  (aa : Option Addr) (an ac : Nat) (hA : yAO w ats aa an ac) :
  Calls Tryz.prog 30 #[.pointer (some ⟨K, 0, none⟩), .agg #[.int .i64 kd, .int .i64 nu, .int .i64 dp, .string nm, .slice aa an ac, .string tx, .int .i64 c6, .int .i64 c7]] w fun e w' => e = .returned (.bool false) ∧ Below w.heap.size w w' := by
 obtain ⟨W1, hW1⟩ := je (w.alloc (.cells #[.int .i64 kd, .int .i64 nu, .int .i64 dp, .string nm, .slice aa an ac, .string tx, .int .i64 c6, .int .i64 c7] 45)); have b1 : Below w.heap.size w W1 := by rw [← hW1]; exact (jf _ _).alloc (jr _) _
 have hX1 : W1.heap[w.heap.size]? = some (.cells #[.int .i64 kd, .int .i64 nu, .int .i64 dp, .string nm, .slice aa an ac, .string tx, .int .i64 c6, .int .i64 c7] 45) := by rw [← hW1]; exact jw _ _
 have h1 : yE9 W1 tg K vO os.length (osC os) num tx0 dn := h.keep fun b hl _ => ⟨b1.block b hl, rfl⟩
 have hK1 := h1.hK; have h1s : w.heap.size < W1.heap.size := jl hX1; have hK1s : K < W1.heap.size := jl hK1; obtain ⟨z1, z2, z3, z4⟩ := hz; simp only at z1 z2 z3 z4; have hal := hA.len; have HOP := jh (yQv kd nu dp nm tx ats aa an ac (.int .i64 c6) (.int .i64 c7) W1 h1 (hT.below b1) (by omega) (by omega) (hA.below b1) (fun x hx => by have := z4 x hx; omega) (by omega)); have HCL := jh (yNY kd nu dp nm tx aa an ac (.int .i64 c6) (.int .i64 c7) W1 h1 (by omega)); obtain ⟨oa, oc, hvO, hol, hocm, _⟩ := yAb h.row; subst hvO; have y0 := jc hX1 0 rfl; have y1 := jc hX1 1 rfl; have y2 := jc hX1 2 rfl; have y3 := jc hX1 3 rfl; have y4 := jc hX1 4 rfl; have y5 := jc hX1 5 rfl; have y6 := jc hX1 6 rfl; have y7 := jc hX1 7 rfl; have k3 := jc hK1 3 rfl; have HB1 := jh b1; have HW1 := jh hW1; have HK1 := jh hK1; have HT1 := jh (hT.below b1); have HA := jh hal; have e4 : IntKind.i64.wrap ((os.length : Int) + 1) = (os.length : Int) + 1 := IntWalk.i64_in _ (by omega); unfold yAI at hn; by_cases h0 : kd = 0
 ·subst h0; rw [if_pos rfl] at hn; clear hX1 b1 hW1 hK1 h h1 hT hA hal z1 z2 z3 z4 HCL; cases dn
  case true =>
   clear hn HOP; go_enter Tryz.func30, Tryz.ntmps30; go_upto_region 1 with fail; rw [HW1.out]; go_wp2_with fail; go_ret; exact ⟨rfl, HB1.out⟩
  case false =>
   obtain ⟨ob, hob⟩ : ∃ ob, (decide (nu = num) && decide (dp = (os.length : Int) + 1) && decide (tx = ⟨#[]⟩) && yBm nm && yD0 ats) = ob := ⟨_, rfl⟩
   have hn : (ob && (decide (0 < os.length) || decide (num = 0))) = false := by rw [← hob]; simpa [yDe] using hn
   have hop := HOP.out; rw [hob] at hop; have HOB := jh hop; clear HOP hop hob; cases ob
   case false =>
    clear hn; go_enter Tryz.func30, Tryz.ntmps30; go_upto_region 1 with fail; rw [HW1.out]; go_wp2_with fail; refine HOB.out.mono ?_; rintro e w2 ⟨rfl, b2⟩; have HB2 := jh (HB1.out.trans (b2.mono HB1.out.size)); clear b2; go_wp2_with fail; go_ret; exact ⟨rfl, HB2.out⟩
   case true =>
    have hl : ¬ 0 < os.length ∧ ¬ num = 0 := by simpa using hn
    have hl0 : os.length = 0 := by omega
    have hn0 : (num == 0) = false := jn.2 hl.2; have HL0 := jh hl0; clear hn hl hl0; go_enter Tryz.func30, Tryz.ntmps30; go_upto_region 1 with fail; rw [HW1.out]; go_wp2_with fail; refine HOB.out.mono ?_; rintro e w2 ⟨rfl, b2⟩; have HB2 := jh (HB1.out.trans (b2.mono HB1.out.size)); have hK2 := (b2.block _ hK1s).trans HK1.out; have k0 := jc hK2 0 rfl; rw [HL0.out] at k0; have k1 := jc hK2 1 rfl; clear b2 hK2; go_wp2_with fail; go_ret; exact ⟨rfl, HB2.out⟩
 ·rw [if_neg h0] at hn; have f0 : (kd == 0) = false := jn.2 h0; by_cases h2 : kd = 2
  ·subst h2; rw [if_neg (show ¬ (2 : Int) = 1 by decide), if_pos rfl] at hn; clear hX1 b1 hW1 hK1 h h1 hT hA z1 z2 z3 z4 HOP h0; cases dn
   case true =>
    clear hn HCL; go_enter Tryz.func30, Tryz.ntmps30; go_upto_region 1 with fail; rw [HW1.out]; go_wp2_with fail; go_ret; exact ⟨rfl, HB1.out⟩
   case false =>
    have hcl := HCL.out; have hn : yFr ⟨os, num, tx0, false⟩ ⟨2, nu, dp, nm, ats, tx, c6, c7⟩ = false := by simpa using hn
    unfold yFr at hn; simp only at hn; rw [show (decide (ats.length = 0)) = decide (an = 0) by rw [hal]] at hn; rw [hn] at hcl; have HCC := jh hcl; clear hn hcl HCL hal; go_enter Tryz.func30, Tryz.ntmps30; go_upto_region 1 with fail; rw [HW1.out]; go_wp2_with fail; refine HCC.out.mono ?_; rintro e w2 ⟨rfl, b2⟩; have HB2 := jh (HB1.out.trans (b2.mono HB1.out.size)); clear b2; go_wp2_with fail; go_ret; exact ⟨rfl, HB2.out⟩
  ·by_cases h3 : kd = 1
   ·subst h3; rw [if_pos rfl] at hn; have u1 := yAt h1s y1; have u2 := yAt h1s y2; have u3 := yAt h1s y3; have u4 := yAt h1s y4; have u5 := yAt h1s y5; have v0 := yAt hK1s (show W1.cell? ⟨K, 0, none⟩ = some (.slice oa os.length oc) by simp [World.cell?, hK1]); have v1 := yAt hK1s (show W1.cell? ⟨K, 1, none⟩ = some (.int .i64 num) by simp [World.cell?, hK1]); have v2 := yAt hK1s (show W1.cell? ⟨K, 2, none⟩ = some (.bool tx0) by simp [World.cell?, hK1]); obtain ⟨tb, htb⟩ := je (yCe tx); have hct : Hid (∀ p : UpW W1, Calls Tryz.prog 56 #[.string tx] p.W fun e w'' => e = .returned (.bool tb) ∧ ∃ q : UpW W1, w'' = q.W) := jh fun p => yCO (by have := yDA tx p.W (by omega) (HT1.out.below p.h); rw [htb] at this; exact this)
    clear hX1 b1 hW1 hK1 h h1 hT hA z1 z2 z3 z4 HOP HCL h0 h2; have hn : dn = true ∨ (decide (nu = num) && decide (dp = (os.length : Int) + 1) && decide (0 < os.length) && !tx0 && decide (¬ tx = ⟨#[]⟩) && tb && decide (nm = ⟨#[]⟩) && decide (ats.length = 0)) = false := by
     cases dn
     ·exact .inr (by rw [← htb]; simpa [yCR] using hn)
     ·exact .inl rfl
    clear htb; rcases hn with rfl | hn
    case' inr =>
     cases dn
     case' false =>
      by_cases a1 : nu = num
      case' neg =>
       have f1 : (nu == num) = false := jn.2 a1; clear a1 hn
      case' pos =>
       by_cases a2 : dp = (os.length : Int) + 1
       case' neg =>
        have f2 : (dp == (os.length : Int) + 1) = false := jn.2 a2; clear a2 hn; subst a1; have f1 : (nu == nu) = true := beq_self_eq_true _
       case' pos =>
        by_cases a3 : 0 < os.length
        case' neg =>
         have f3 : ¬ (0 : Int) < (os.length : Int) := by omega
         have g3 : (0 < os.length) = False := eq_false a3; clear hn a3; subst a1 a2; have f1 : (nu == nu) = true := beq_self_eq_true _; have f2 : ((os.length : Int) + 1 == (os.length : Int) + 1) = true := beq_self_eq_true _
        case' pos =>
         have f3 : (0 : Int) < (os.length : Int) := by omega
         cases tx0
         case' true =>
          clear hn; subst a1 a2; have f1 : (nu == nu) = true := beq_self_eq_true _; have f2 : ((os.length : Int) + 1 == (os.length : Int) + 1) = true := beq_self_eq_true _
         case' false =>
          by_cases a5 : tx = ⟨#[]⟩
          case' pos =>
           clear hn; subst a1 a2 a5; have f1 : (nu == nu) = true := beq_self_eq_true _; have f2 : ((os.length : Int) + 1 == (os.length : Int) + 1) = true := beq_self_eq_true _
          case' neg =>
           have f5 : ¬ tx.toList = [] := yAW a5; have g5 : (tx.toList == []) = false := jn.2 f5; cases tb
           case' false =>
            clear hn a5; subst a1 a2; have f1 : (nu == nu) = true := beq_self_eq_true _; have f2 : ((os.length : Int) + 1 == (os.length : Int) + 1) = true := beq_self_eq_true _
           case' true =>
            by_cases a7 : nm = ⟨#[]⟩
            case' neg =>
             have f7 : (nm.toList == []) = false := jn.2 (yAW a7); have g7 : ¬ nm.toList = [] := yAW a7; clear hn a5 a7; subst a1 a2; have f1 : (nu == nu) = true := beq_self_eq_true _; have f2 : ((os.length : Int) + 1 == (os.length : Int) + 1) = true := beq_self_eq_true _
            case' pos =>
             have a8 : ¬ ats.length = 0 := fun e => by rw [decide_eq_true a1, decide_eq_true a2, decide_eq_true a3, decide_eq_true a5, decide_eq_true a7, decide_eq_true e] at hn; cases hn
             rw [HA.out] at a8; have f8 : ((an : Int) == 0) = false := jn.2 (by omega); clear hn a5 a8; subst a1 a2 a7; have f1 : (nu == nu) = true := beq_self_eq_true _; have f2 : ((os.length : Int) + 1 == (os.length : Int) + 1) = true := beq_self_eq_true _
    all_goals
     go_enter Tryz.func30, Tryz.ntmps30; go_upto_region 1 with fail; rw [HW1.out]; go_upto_region 7 with fail; refine yA1 (by kernel_rfl) (by kernel_rfl) ?_
     repeat (quiet_step (first | (go_at_call 56; with_reducible exact hct.out _)))
     refine wpQuiet_nil ?_; intro w6 hw'; obtain ⟨⟨wz, hbz⟩, hw''⟩ := hw'; have HB6 : Hid (Below w.heap.size w w6) := jh (by rw [hw'']; exact HB1.out.trans (hbz.mono HB1.out.size)); clear hw'' hbz wz; go_wp2_with fail; go_ret; exact ⟨rfl, HB6.out⟩
   ·have f1 : (kd == 1) = false := jn.2 h3; have f2 : (kd == 2) = false := jn.2 h2; clear hX1 b1 hW1 hK1 h h1 hT hA z1 z2 z3 z4 HOP HCL h0 h2 h3 hn; cases dn
    all_goals
     go_enter Tryz.func30, Tryz.ntmps30; go_upto_region 1 with fail; rw [HW1.out]; go_wp2_with fail; go_ret; exact ⟨rfl, HB1.out⟩
end
section
attribute [local go_sem ↓] Go.wp_at_zero Go.wp_at_succ
theorem ySO {n0 : Nat} {tg : Nat → Nat × Nat} {H : Nat} {nd : yAc} {fs : List FrS} {s : CkS} {ex : Option (List Int)} (w : World) (h : HoX n0 w tg H nd fs s ex) (hT : yBd w) (e : EvD) (hn : yAI s e = false) (hz : yEg e) (hen : s.os.length ≤ 1048575)
  (aa : Option Addr) (an ac : Nat) (hA : yAO w e.ats aa an ac) :
  Calls Tryz.prog 13 #[.pointer (some ⟨H, 0, none⟩), .agg #[.int .i64 e.kd, .int .i64 e.num, .int .i64 e.dep, .string e.nm, .slice aa an ac, .string e.tx, .int .i64 e.fr, .int .i64 e.tu]] w fun r w' => r = .returned (.int .i64 6) ∧ Below w.heap.size w w' := by
 obtain ⟨K, vF, vX, vK, ps, vO, h1, _, _⟩ := h; obtain ⟨kd, nu, dp, nm, ats, tx, c6, c7⟩ := e; obtain ⟨os, num, tx0, dn⟩ := s; simp only at hn hen h1 hA ⊢; obtain ⟨mn, ra, rc, pa, pc, hH, _⟩ := h1.hH; obtain ⟨W1, hW1⟩ := je (w.alloc (.cells #[.int .i64 kd, .int .i64 nu, .int .i64 dp, .string nm, .slice aa an ac, .string tx, .int .i64 c6, .int .i64 c7] 45)); have b1 : Below w.heap.size w W1 := by rw [← hW1]; exact (jf _ _).alloc (jr _) _
 have hX1 : W1.heap[w.heap.size]? = some (.cells #[.int .i64 kd, .int .i64 nu, .int .i64 dp, .string nm, .slice aa an ac, .string tx, .int .i64 c6, .int .i64 c7] 45) := by rw [← hW1]; exact jw _ _
 have hH1 := (b1.block H h1.lt).trans hH; have HCT : Hid (∀ W, Below W1.heap.size W1 W → Calls Tryz.prog 30 #[.pointer (some ⟨K, 0, none⟩), .agg #[.int .i64 kd, .int .i64 nu, .int .i64 dp, .string nm, .slice aa an ac, .string tx, .int .i64 c6, .int .i64 c7]] W fun e w' => e = .returned (.bool false) ∧ Below W.heap.size W w') := jh fun W hW => by have hbw := b1.trans (hW.mono b1.size); exact yRA kd nu dp nm tx ats c6 c7 W (h1.ck.keep (W' := W) (tg' := tg) fun b hl _ => ⟨hbw.block b hl, rfl⟩) (hT.below hbw) hz (by omega) hn aa an ac (hA.below hbw)
 have hX1s : w.heap.size < W1.heap.size := jl hX1; have q3 := jc hH1 3 rfl; have hH1s : H < W1.heap.size := jl hH1; have y0 := jc hX1 0 rfl; have y1 := jc hX1 1 rfl; have y2 := jc hX1 2 rfl; have y3 := jc hX1 3 rfl; have y4 := jc hX1 4 rfl; have y5 := jc hX1 5 rfl; have y6 := jc hX1 6 rfl; have y7 := jc hX1 7 rfl; have HW1 := jh hW1; have HB1 := jh b1; clear h1 hH hX1 b1 hW1 hH1 hT hz hen hn hA; go_enter Tryz.func13, Tryz.ntmps13; go_upto_region 1 with fail; rw [HW1.out]; go_upto_region 3 with fail; go_region_with (first
  | (go_at_call 30; refine (HCT.out _ (by first | exact jf _ _ | exact (jf _ _).drew)).mono ?_; rintro e w13 ⟨rfl, hb⟩; have HC : Hid (Below W1.heap.size W1 w13) := jh (by first | exact hb | exact ((jf _ _).drew).trans hb); clear hb))
 all_goals
  go_wp2_with fail; go_ret; exact ⟨rfl, by first | exact HB1.out.trans (HC.out.mono HB1.out.size) | exact HB1.out.trans ((HC.out.drew).mono HB1.out.size)⟩
end
end Go.Proofs.YtkhejkfjhddobaaGreatDoor
