/- gimletref09.Beginning: are these the first events of a document's? -/
import Derived.Test.YtkhejkfjhddobaaGreatDoorRevM
import Derived.Test.YtkhejkfjhddobaaGreatDoorHoCloseM
set_option maxRecDepth 100000
set_option maxHeartbeats 16000000
set_option linter.unusedSimpArgs false
namespace Go.Proofs.YtkhejkfjhddobaaGreatDoor
open Go.RowKit Gim
def opV (op : List Nat) : List Value := op.map fun (k : Nat) => Value.int .i64 k
structure yEg (x : EvD) : Prop where
 nm : x.nm.size ≤ 1099511627776
 tx : x.tx.size ≤ 1099511627776
 al : x.ats.length ≤ 1099511627776
 at_ : ∀ y ∈ x.ats, y.1.size ≤ 1099511627776 ∧ y.2.size ≤ 1099511627776
theorem yHr {es : List EvD} {a : Option Addr} {n cap : Nat} (w : World) (hE : yC4 w es a n cap) (hsz : ∀ x ∈ es, yEg x) (hn : n ≤ 1099511627775) :
  Calls Tryz.prog 8 #[.slice a n cap] w fun e w' => (∃ d x, e = .returned (.tuple #[.bool (yIt es), d, x]) ∧ ∀ t, yA6 ck0 es = some t → x = .bool t.dn) ∧ Below w.heap.size w w' := by
 have HE := jh hE; have HL := jh hE.len; have HZ := jh hsz; have hle := hE.le; have hcl := hE.cap_le; clear hE hsz; go_enter Tryz.func8, Tryz.ntmps8; go_wp2_with fail; go_loopw [5, 6, 7] (fun v m i wr => ∃ (j : Nat) (s : CkS) (op : List Nat), i = .int .i64 j ∧ m = .int .i64 s.num ∧ j ≤ n ∧ Hid (yGL es j s op) ∧ Below w.heap.size w wr ∧ wr.ownsRow w.heap.size 3 1 v op.length (opV op)) (fun _ _ i _ => n - (intOf i).toNat)
 case atStart => exact ⟨0, ck0, [], rfl, rfl, jz _, jh (yTo es), jf _ _, World.ownsRow_nil _ _ _ _⟩
 case round =>
  obtain ⟨i, s, op, rfl, rfl, hi, HR, hb9, hrow⟩ := hrel; by_cases hin : i < n
  ·have hin' : (i : Int) < n := by omega
   have hil : i < es.length := by rw [HL.out]; exact hin
   obtain ⟨e, he⟩ : ∃ e, es[i]? = some e := ⟨_, jk hil⟩
   have hol := HR.out.len; obtain ⟨en, hen⟩ := je (op.length); rw [hen] at hrow hol; obtain ⟨oa, oc, rfl, ho1, ho2, ho3⟩ := yAb hrow; have HOA := jh ho3; clear ho3; obtain ⟨b, o, rfl, hfit⟩ := (HE.out.below hb9).fit i hin; have hF := hfit i e he; have hz := HZ.out e (List.mem_of_getElem? he); obtain ⟨hbl, c0, c1, c2, c3, ⟨aa, an, ac, c4, hA⟩, c5, c6, c7⟩ := hF; have hosl := HR.out.osl; rw [← hol] at hosl; have hnum := HR.out.num; obtain ⟨kd, nu, dp, nm, ats, tx, fr, tu⟩ := e; obtain ⟨hz1, hz2, hz3, hz4⟩ := hz; simp only at c0 c1 c2 c3 c4 c5 c6 c7 hA hz1 hz2 hz3 hz4; have han : an ≤ 1099511627776 := by rw [← hA.len]; exact hz3
   obtain ⟨W5, hW5⟩ := je (wr.alloc (.cells #[.int .i64 kd, .int .i64 nu, .int .i64 dp, .string nm, .slice aa an ac, .string tx, .int .i64 fr, .int .i64 tu] 45)); obtain ⟨X, hX⟩ := je (wr.heap.size); have hX5 : W5.heap[X]? = some (.cells #[.int .i64 kd, .int .i64 nu, .int .i64 dp, .string nm, .slice aa an ac, .string tx, .int .i64 fr, .int .i64 tu] 45) := by rw [← hW5, ← hX]; exact jw _ _
   have HB5 : Hid (Below w.heap.size w W5) := jh (by rw [← hW5]; exact hb9.trans ((jf _ _).alloc hb9.size _)); have HA5 : Hid (yAO W5 ats aa an ac) := jh (hA.below (by rw [← hW5]; exact (jf _ _).alloc (jr _) _)); have HROW : Hid (W5.ownsRow w.heap.size 3 1 (.slice oa en oc) en (opV op)) := jh (by rw [← hW5]; exact World.ownsRow.alloc hrow _); have hXs : X < W5.heap.size := jl hX5; have y0 := jc hX5 0 rfl; have y1 := jc hX5 1 rfl; have y2 := jc hX5 2 rfl; have y3 := jc hX5 3 rfl; have y4 := jc hX5 4 rfl; have y5 := jc hX5 5 rfl; have HX5 := jh hX5; have HEV := jh he; have HEN := jh hen; have HOL := jh hol; have HOG : Hid (∀ g, (Value.slice oa en oc).ownBlock = some g → g < X) := jh fun g hg => by rw [← hX]; exact (World.ownsRow.lt hrow g hg).2
   have HWX : Hid (w.heap.size ≤ X) := jh (by rw [← hX]; exact hb9.size); have HW5 := jh hW5; have HXX := jh hX; clear hb9 hrow hA he hen hfit hX5 hW5 hX hol; go_upto_region 7 with fail; rw [HW5.out, HXX.out]; clear c0 c1 c2 c3 c4 c5 c6 c7; go_cut [26] from 20 to 26 (fun v wx => v = .bool s.dn ∧ wx = W5)
   case first =>
    by_cases h0 : 0 < i
    ·have hd := HR.out.dn; rw [← HOL.out] at hd; have e1 : ((en : Int) == 0) = s.dn := by rw [hd, Bool.eq_iff_iff, beq_iff_eq, decide_eq_true_eq]; omega
     clear hd; go_wp2_with fail; go_meet; exact ⟨rfl, rfl⟩
    ·have f1 : (0 < i) = False := eq_false h0; have f3 : i = 0 := by omega
     have hd : s.dn = false := by rw [HR.out.dn]; exact decide_eq_false (by omega)
     subst f3; go_wp2_with fail; go_meet; exact ⟨by rw [hd], rfl⟩
   case rest =>
   obtain ⟨rfl, e5⟩ := hcut; rw [e5]; clear e5 wc; cases hd : s.dn with
   | true =>
    have HD := jh hd; clear hd; have HF := jh (HR.out.fail HEV.out (yTl HD.out)); go_wp2_with fail; go_ret3; exact ⟨⟨_, _, by rw [HF.out]; rfl, fun _ ht => yE4 HF.out ht⟩, HB5.out⟩
   | false =>
    have HD := jh hd; clear hd; by_cases hk0 : kd = 0
    ·subst hk0; have HNX := jh (HR.out.opn HD.out (e := (⟨0, nu, dp, nm, ats, tx, fr, tu⟩ : EvD)) rfl); go_upto_region 12 with fail; clear y0; go_cut [59] from 31 to 59 (fun v wx => v = .bool (!yDe s ⟨0, nu, dp, nm, ats, tx, fr, tu⟩) ∧ Below W5.heap.size W5 wx)
     case first =>
      have f9 : IntKind.i64.wrap ((en : Int) + 1) = (en : Int) + 1 := IntWalk.i64_in _ (by omega); by_cases a1 : nu = s.num
      ·by_cases a2 : dp = (en : Int) + 1
       ·by_cases a3 : tx = ⟨#[]⟩
        ·have t1 : (nu != s.num) = false := by rw [a1]; simp
         have t2 : (dp != (en : Int) + 1) = false := by rw [a2]; simp
         have t3 : (tx.toList != []) = false := by rw [a3, ByteArray.toList_eq]; rfl
         have t4 : (tx.toList == []) = true := by rw [a3, ByteArray.toList_eq]; rfl
         go_wp2_with fail; refine (yFe nm W5 (by omega)).mono ?_; rintro e w1 ⟨rfl, hb1⟩; have hb1' := hb1; cases hN : yBm nm with
         | false =>
          have HO := jh (show yDe s ⟨0, nu, dp, nm, ats, tx, fr, tu⟩ = false by unfold yDe; simp [hN]); clear a1 a2 a3 hb1 t1 t2 t3; go_wp2_with fail; go_meet; exact ⟨by rw [HO.out]; rfl, hb1'⟩
         | true =>
          have z4 := (hb1.cell (p := ⟨X, 4, none⟩) hXs).trans y4; have HB1 := jh hb1; have HO := jh (show yDe s ⟨0, nu, dp, nm, ats, tx, fr, tu⟩ = yD0 ats by unfold yDe; rw [← HOL.out]; simp [a1, a2, a3, hN]); clear a1 a2 a3 hb1 hb1' y4; go_wp2_with fail; refine (yMw w1 (HA5.out.below HB1.out) hz4 han).mono ?_; rintro e w2 ⟨rfl, hb2⟩; have HB2 := jh (HB1.out.trans (hb2.mono HB1.out.size)); clear hb2 t1 t2 t3; go_wp2_with fail; go_meet; exact ⟨by rw [HO.out], HB2.out⟩
        ·have t1 : (nu != s.num) = false := by rw [a1]; simp
         have t2 : (dp != (en : Int) + 1) = false := by rw [a2]; simp
         have t3 : (tx.toList != []) = true := bne_iff_ne.2 (yAW a3); have t4 : (tx.toList == []) = false := jn.2 (yAW a3); have t5 := yAW a3; have HO := jh (show yDe s ⟨0, nu, dp, nm, ats, tx, fr, tu⟩ = false by unfold yDe; simp [a3]); clear a1 a2 a3; go_wp2_with fail; go_meet; exact ⟨by rw [HO.out]; rfl, jf _ _⟩
       ·have t1 : (nu != s.num) = false := by rw [a1]; simp
        have t2 : (dp != (en : Int) + 1) = true := by simpa using a2
        have HO := jh (show yDe s ⟨0, nu, dp, nm, ats, tx, fr, tu⟩ = false by unfold yDe; rw [← HOL.out]; simp [a2]); clear a1 a2; go_wp2_with fail; go_meet; exact ⟨by rw [HO.out]; rfl, jf _ _⟩
      ·have t1 : (nu != s.num) = true := by simpa using a1
       have HO := jh (show yDe s ⟨0, nu, dp, nm, ats, tx, fr, tu⟩ = false by unfold yDe; simp [a1]); clear a1; go_wp2_with fail; go_meet; exact ⟨by rw [HO.out]; rfl, jf _ _⟩
     case rest =>
     obtain ⟨rfl, hbc⟩ := hcut; have HBC := jh (HB5.out.trans (hbc.mono HB5.out.size)); cases hO : yDe s ⟨0, nu, dp, nm, ats, tx, fr, tu⟩ with
     | false =>
      have HF := jh (HR.out.fail HEV.out (HNX.out.trans hO)); go_wp2_with fail; go_ret3; exact ⟨⟨_, _, by rw [HF.out]; rfl, fun _ ht => yE4 HF.out ht⟩, HBC.out⟩
     | true =>
      have HRN := jh (HR.out.next HEV.out (HNX.out.trans hO)); have hrc : wc.ownsRow w.heap.size 3 1 (.slice oa en oc) en (opV op) := ownsRow_below HROW.out hbc (fun g hg => Nat.lt_trans (HOG.out g hg) hXs); have hwc : w.heap.size ≤ wc.heap.size := HBC.out.size; have f9 : IntKind.i64.wrap (s.num + 1) = s.num + 1 := IntWalk.i64_in _ (by omega); have f10 : IntKind.i64.wrap ((i : Int) + 1) = (i : Int) + 1 := IntWalk.i64_in _ (by omega); clear hbc y1 y2 y3 y4 y5; go_wp2_with (at_builtin; refine yFQ wc rfl _ _ 53 3 rfl _ 1 8 yDT Tryz.underlying53 (by rfl) (by decide) (by decide) w.heap.size (.slice oa en oc) en (opV op) rfl hrc [.int .i64 i] (by rfl) (by intro u hu; rw [List.mem_singleton] at hu; subst hu; rfl) rfl (by omega) hwc ?_; intro v3 w3 own3 grow3 at3; obtain ⟨a3, c3, rfl, _⟩ := yAb own3; have OWN := jh own3; have GROW := jh grow3; clear own3 grow3 at3); go_roundw
      case rel =>
       refine ⟨i + 1, stp s ⟨0, nu, dp, nm, ats, tx, fr, tu⟩, op ++ [i], by simp, by unfold stp; rfl, by omega, HRN, HBC.out.grown GROW.out hwc (fun k hk => (World.ownsRow.lt hrc k hk).1), ?_⟩; have := OWN.out; rw [jp, HEN.out]; unfold opV at this ⊢; rw [List.map_append]; exact this
      case measure => simp [intOf]; omega
    ·have hk0' : (kd == 0) = false := by simpa using hk0
     by_cases hk1 : kd = 1
     ·subst hk1; have HNX := jh (yO9 (s := s) HD.out (e := (⟨1, nu, dp, nm, ats, tx, fr, tu⟩ : EvD)) rfl); go_upto_region 17 with fail; clear y0; go_cut [115] from 68 to 115 (fun v wx => v = .bool (!yCR s ⟨1, nu, dp, nm, ats, tx, fr, tu⟩) ∧ Below W5.heap.size W5 wx)
      case first =>
       have f9 : IntKind.i64.wrap ((en : Int) + 1) = (en : Int) + 1 := IntWalk.i64_in _ (by omega); by_cases a0 : en = 0
       ·have t0 : ((en : Int) == 0) = true := by simp [a0]
        have HO := jh (show yCR s ⟨1, nu, dp, nm, ats, tx, fr, tu⟩ = false by unfold yCR; rw [← HOL.out, decide_eq_false (show ¬ 0 < en by omega)]; simp); clear a0; go_wp2_with fail; go_meet; exact ⟨by rw [HO.out]; rfl, jf _ _⟩
       have t0 : ((en : Int) == 0) = false := by simp [a0]
       by_cases a1 : nu = s.num
       case neg =>
        have t1 : (nu != s.num) = true := by simpa using a1
        have HO := jh (show yCR s ⟨1, nu, dp, nm, ats, tx, fr, tu⟩ = false by unfold yCR; simp [a1]); clear a1 a0; go_wp2_with fail; go_meet; exact ⟨by rw [HO.out]; rfl, jf _ _⟩
       have t1 : (nu != s.num) = false := by rw [a1]; simp
       by_cases a2 : dp = (en : Int) + 1
       case neg =>
        have t2 : (dp != (en : Int) + 1) = true := by simpa using a2
        have HO := jh (show yCR s ⟨1, nu, dp, nm, ats, tx, fr, tu⟩ = false by unfold yCR; rw [← HOL.out]; simp [a2]); clear a1 a0 a2; go_wp2_with fail; go_meet; exact ⟨by rw [HO.out]; rfl, jf _ _⟩
       have t2 : (dp != (en : Int) + 1) = false := by rw [a2]; simp
       by_cases a3 : nm = ⟨#[]⟩
       case neg =>
        have t3 : (nm.toList != []) = true := bne_iff_ne.2 (yAW a3); have t4 : (nm.toList == []) = false := jn.2 (yAW a3); have t5 := yAW a3; have HO := jh (show yCR s ⟨1, nu, dp, nm, ats, tx, fr, tu⟩ = false by unfold yCR; simp [a3]); clear a1 a0 a2 a3; go_wp2_with fail; go_meet; exact ⟨by rw [HO.out]; rfl, jf _ _⟩
       have t3 : (nm.toList != []) = false := by rw [a3, ByteArray.toList_eq]; rfl
       have t4 : (nm.toList == []) = true := by rw [a3, ByteArray.toList_eq]; rfl
       have hal := HA5.out.len; by_cases a4 : an = 0
       case neg =>
        have t5 : 0 < an := by omega
        have t6 : (0 : Int) < (an : Int) := by omega
        have HO := jh (show yCR s ⟨1, nu, dp, nm, ats, tx, fr, tu⟩ = false by unfold yCR; rw [decide_eq_false (show ¬ ats.length = 0 by omega)]; simp); clear a1 a0 a2 a3 a4; go_wp2_with fail; go_meet; exact ⟨by rw [HO.out]; rfl, jf _ _⟩
       subst a4; by_cases a5 : tx = ⟨#[]⟩
       case pos =>
        have t5 : (tx.toList != []) = false := by rw [a5, ByteArray.toList_eq]; rfl
        have t6 : (tx.toList == []) = true := by rw [a5, ByteArray.toList_eq]; rfl
        have HO := jh (show yCR s ⟨1, nu, dp, nm, ats, tx, fr, tu⟩ = false by unfold yCR; simp [a5]); clear a1 a0 a2 a3 a5; go_wp2_with fail; go_meet; exact ⟨by rw [HO.out]; rfl, jf _ _⟩
       have t5 : (tx.toList != []) = true := bne_iff_ne.2 (yAW a5); have t6 : (tx.toList == []) = false := jn.2 (yAW a5); have t7 := yAW a5; have HO2 : Hid (yCR s ⟨1, nu, dp, nm, ats, tx, fr, tu⟩ = (!s.tx && yCe tx)) := jh (by unfold yCR; rw [← HOL.out, decide_eq_true (show 0 < en by omega), decide_eq_true hal]; simp [a1, a2, a3, a5]); have HE0 := jh a0; clear a0 a1 a2 a3 a5 hal; go_wp2_with fail; refine (yEn tx W5 (by omega)).mono ?_; rintro e w1 ⟨rfl, hb1⟩; cases hV : yCe tx with
       | false =>
        have HO := jh (HO2.out.trans (by rw [hV, Bool.and_false])); have HB1 := jh hb1; clear hb1; go_wp2_with fail; go_meet; exact ⟨by rw [HO.out]; rfl, HB1.out⟩
       | true =>
        have HO := jh (HO2.out.trans (by rw [hV, Bool.and_true])); have hi0 : 0 < i := by have := HE0.out; omega
        obtain ⟨q, hq⟩ : ∃ q, i = q + 1 := ⟨i - 1, by omega⟩
        obtain ⟨x, hx, hxt⟩ := HR.out.tx hi0; rw [show i - 1 = q by omega] at hx; obtain ⟨b', o', e', hfq⟩ := (HE.out.below (HB5.out.trans (hb1.mono HB5.out.size))).fit q (by omega); injection e' with e'
        injection e' with e1 e2; subst e1 e2; have hc := (hfq q x hx).c0; obtain ⟨xk, hxk⟩ := je (x.kd); rw [hxk] at hc hxt; have t8 : (xk == 1) = s.tx := by rw [Bool.eq_iff_iff, beq_iff_eq]; exact hxt.symm
        have f2 : IntKind.i64.wrap ((i : Int) - 1) = (q : Int) := by rw [show ((i : Int) - 1) = (q : Int) by omega]; exact IntWalk.i64_in _ (by omega)
        have f4 : (q : Int) < n := by omega
        have HB1 := jh hb1; clear hb1 hfq hx hxt hxk hq; go_wp2_with fail; go_meet; exact ⟨by rw [HO.out, Bool.not_not], HB1.out⟩
      case rest =>
      obtain ⟨rfl, hbc⟩ := hcut; have HBC := jh (HB5.out.trans (hbc.mono HB5.out.size)); cases hO : yCR s ⟨1, nu, dp, nm, ats, tx, fr, tu⟩ with
      | false =>
       have HF := jh (HR.out.fail HEV.out (HNX.out.trans hO)); go_wp2_with fail; go_ret3; exact ⟨⟨_, _, by rw [HF.out]; rfl, fun _ ht => yE4 HF.out ht⟩, HBC.out⟩
      | true =>
       have HRN := jh (HR.out.next HEV.out (HNX.out.trans hO)); have HRC : Hid (wc.ownsRow w.heap.size 3 1 (.slice oa en oc) en (opV op)) := jh (ownsRow_below HROW.out hbc (fun g hg => Nat.lt_trans (HOG.out g hg) hXs)); have f9 : IntKind.i64.wrap (s.num + 1) = s.num + 1 := IntWalk.i64_in _ (by omega); have f10 : IntKind.i64.wrap ((i : Int) + 1) = (i : Int) + 1 := IntWalk.i64_in _ (by omega); clear hbc y1 y2 y3 y4 y5; go_wp2_with fail; go_roundw
       case rel => exact ⟨i + 1, stp s ⟨1, nu, dp, nm, ats, tx, fr, tu⟩, op, by simp, by unfold stp; rfl, by omega, HRN, HBC.out, by rw [HEN.out]; exact HRC.out⟩
       case measure => simp [intOf]; omega
     ·have hk1' : (kd == 1) = false := by simpa using hk1
      by_cases hk2 : kd = 2
      ·subst hk2; have HNX := jh (yPm (s := s) HD.out (e := (⟨2, nu, dp, nm, ats, tx, fr, tu⟩ : EvD)) rfl); go_upto_region 21 with fail; clear y0; have hal := HA5.out.len; obtain ⟨cb, hcb⟩ : ∃ cb, (decide (0 < en) && decide (tx = ⟨#[]⟩) && decide (an = 0)) = cb := ⟨_, rfl⟩
       go_cut [133] from 120 to 133 (fun v wx => v = .bool (!cb) ∧ wx = W5)
       case first =>
        by_cases a0 : en = 0
        ·have t0 : ((en : Int) == 0) = true := by simp [a0]
         have HO := jh (show cb = false by rw [← hcb, decide_eq_false (show ¬ 0 < en by omega)]; rfl); clear a0 hcb; go_wp2_with fail; go_meet; exact ⟨by rw [HO.out]; rfl, rfl⟩
        have t0 : ((en : Int) == 0) = false := by simp [a0]
        by_cases a3 : tx = ⟨#[]⟩
        case neg =>
         have t3 : (tx.toList != []) = true := bne_iff_ne.2 (yAW a3); have t4 : (tx.toList == []) = false := jn.2 (yAW a3); have t5 := yAW a3; have HO := jh (show cb = false by rw [← hcb]; simp [a3]); clear a0 a3 hcb; go_wp2_with fail; go_meet; exact ⟨by rw [HO.out]; rfl, rfl⟩
        have t3 : (tx.toList != []) = false := by rw [a3, ByteArray.toList_eq]; rfl
        have t4 : (tx.toList == []) = true := by rw [a3, ByteArray.toList_eq]; rfl
        by_cases a4 : an = 0
        case neg =>
         have t5 : 0 < an := by omega
         have t6 : (0 : Int) < (an : Int) := by omega
         have HO := jh (show cb = false by rw [← hcb]; simp [a4]); clear a0 a3 hcb a4; go_wp2_with fail; go_meet; exact ⟨by rw [HO.out]; rfl, rfl⟩
        have HO := jh (show cb = true by rw [← hcb, decide_eq_true (show 0 < en by omega), decide_eq_true a3, decide_eq_true a4]; rfl); subst a4; clear a0 a3 hcb; go_wp2_with fail; go_meet; exact ⟨by rw [HO.out]; rfl, rfl⟩
       case rest =>
       obtain ⟨rfl, e5⟩ := hcut; rw [e5]; clear e5 wc; cases hC : cb with
       | false =>
        have HF := jh (HR.out.fail HEV.out (HNX.out.trans (by
         rw [hC] at hcb; unfold yFr; rw [← HOL.out]; rw [Bool.and_eq_false_iff, Bool.and_eq_false_iff, decide_eq_false_iff_not, decide_eq_false_iff_not, decide_eq_false_iff_not] at hcb; rcases hcb with (h1 | h1) | h1
         ·simp [h1]
         ·simp [h1]
         ·simp [show ¬ ats.length = 0 by omega])))
        clear hcb; go_wp2_with fail; go_ret3; exact ⟨⟨_, _, by rw [HF.out]; rfl, fun _ ht => yE4 HF.out ht⟩, HB5.out⟩
       | true =>
        rw [hC] at hcb; simp only [jb, decide_eq_true_eq] at hcb; obtain ⟨⟨hc1, hc2⟩, hc3⟩ := hcb; have HC2 := jh hc2; have HC3 := jh hc3; clear hc2 hc3; obtain ⟨p, hp⟩ : ∃ p, en = p + 1 := ⟨en - 1, by omega⟩
        obtain ⟨k, hk⟩ : ∃ k, op[p]? = some k := ⟨_, jk (by rw [HEN.out]; omega)⟩
        obtain ⟨hki, x, hx, hxo⟩ := HR.out.at_ p k hk; have HGD := jh (show s.os.getD (en - 1) zo = (x.num, x.dep, x.nm) by rw [jg, show en - 1 = p by omega, hxo]; rfl); obtain ⟨g, rfl, hg1, hg2⟩ := HOA.out p (by omega); have HPOP : Hid (W5.ownsRow w.heap.size 3 1 (.slice (some ⟨g, 0, none⟩) p oc) op.dropLast.length (opV op.dropLast)) := jh (by
         have hne : op ≠ [] := by rintro rfl; simp at hk
         have h1 := HROW.out; have h2 : opV op = opV op.dropLast ++ [Value.int .i64 (op.getLast hne : Nat)] := by
          conv => lhs; rw [← List.dropLast_concat_getLast hne]
          unfold opV; rw [List.map_append]; rfl
         rw [h2, hp] at h1; have hl : op.dropLast.length = p := by rw [List.length_dropLast, HEN.out, hp]; rfl
         rw [hl]; exact ownsRow_pop (by unfold opV; rw [List.length_map, hl, Nat.mul_one]) h1)
        have go0 : W5.cell? ⟨g, p, none⟩ = some (.int .i64 (k : Int)) := yAq HROW.out (by unfold opV; rw [List.getElem?_map, hk]; rfl); have hgW : g < W5.heap.size := by rw [HXX.out] at hg2; omega
        obtain ⟨b', o', e', hfk⟩ := (HE.out.below HB5.out).fit k (by omega); injection e' with e'
        injection e' with e1 e2; subst e1 e2; obtain ⟨hbl2, d0, d1, d2, d3, ⟨ba, bn, bc, d4, _⟩, d5, d6, d7⟩ := hfk k x hx; obtain ⟨xkd, xnu, xdp, xnm, xats, xtx, xfr, xtu⟩ := x; simp only at d0 d1 d2 d3 d4 d5 d6 d7 HGD; obtain ⟨W6, hW6⟩ := je (W5.alloc (.cells #[.int .i64 xkd, .int .i64 xnu, .int .i64 xdp, .string xnm, .slice ba bn bc, .string xtx, .int .i64 xfr, .int .i64 xtu] 45)); obtain ⟨Y, hY⟩ := je (W5.heap.size); have hY6 : W6.heap[Y]? = some (.cells #[.int .i64 xkd, .int .i64 xnu, .int .i64 xdp, .string xnm, .slice ba bn bc, .string xtx, .int .i64 xfr, .int .i64 xtu] 45) := by rw [← hW6, ← hY]; exact jw _ _
        have hb56 : Below W5.heap.size W5 W6 := by rw [← hW6]; exact (jf _ _).alloc (jr _) _
        have z1 := (hb56.cell (p := ⟨X, 1, none⟩) hXs).trans y1; have z2 := (hb56.cell (p := ⟨X, 2, none⟩) hXs).trans y2; have z3 := (hb56.cell (p := ⟨X, 3, none⟩) hXs).trans y3; have HB6 : Hid (Below w.heap.size w W6) := jh (HB5.out.trans (hb56.mono HB5.out.size)); have HPOP6 : Hid (W6.ownsRow w.heap.size 3 1 (.slice (some ⟨g, 0, none⟩) p oc) op.dropLast.length (opV op.dropLast)) := jh (by rw [← hW6]; exact World.ownsRow.alloc HPOP.out _); have x1 := jc hY6 1 rfl; have x2 := jc hY6 2 rfl; have x3 := jc hY6 3 rfl; have f2 : IntKind.i64.wrap ((en : Int) - 1) = (p : Int) := by rw [show ((en : Int) - 1) = (p : Int) by omega]; exact IntWalk.i64_in _ (by omega)
        have f4 : (k : Int) < n := by omega
        have f5 : (p : Int) < en := by omega
        have f6 : (p : Int) ≤ oc := by omega
        have HW6 := jh hW6; have HY := jh hY; have HXO := jh hxo; have HP := jh hp; clear hx hxo hfk hW6 hY hk hb56 hY6 y1 y2 y3 y4 y5 hp; go_upto_region 24 with fail; rw [HW6.out, HY.out]; clear d0 d1 d2 d3 d4 d5 d6 d7 go0; obtain ⟨c2, hc2'⟩ : ∃ c2, (decide (nu = xnu) && decide (dp = xdp) && decide (nm = xnm)) = c2 := ⟨_, rfl⟩
        go_cut [161] from 143 to 161 (fun v wx => v = .bool (!c2) ∧ wx = W6)
        case first =>
         by_cases a1 : nu = xnu
         case neg =>
          have t1 : (nu != xnu) = true := by simpa using a1
          have HO := jh (show c2 = false by rw [← hc2']; simp [a1]); clear a1 hc2'; go_wp2_with fail; go_meet; exact ⟨by rw [HO.out]; rfl, rfl⟩
         have t1 : (nu != xnu) = false := by rw [a1]; simp
         by_cases a2 : dp = xdp
         case neg =>
          have t2 : (dp != xdp) = true := by simpa using a2
          have HO := jh (show c2 = false by rw [← hc2']; simp [a2]); clear a1 a2 hc2'; go_wp2_with fail; go_meet; exact ⟨by rw [HO.out]; rfl, rfl⟩
         have t2 : (dp != xdp) = false := by rw [a2]; simp
         by_cases a3 : nm = xnm
         case neg =>
          have t5 : ¬ nm.toList = xnm.toList := fun e => a3 (toList_inj e)
          have t3 : (nm.toList != xnm.toList) = true := bne_iff_ne.2 t5; have t4 : (nm.toList == xnm.toList) = false := jn.2 t5; have HO := jh (show c2 = false by rw [← hc2']; simp [a3]); clear a1 a2 a3 hc2'; go_wp2_with fail; go_meet; exact ⟨by rw [HO.out]; rfl, rfl⟩
         have t3 : (nm.toList != xnm.toList) = false := by rw [a3]; simp
         have t4 : (nm.toList == xnm.toList) = true := by rw [a3]; exact beq_self_eq_true _
         have HO := jh (show c2 = true by rw [← hc2', decide_eq_true a1, decide_eq_true a2, decide_eq_true a3]; rfl); clear a1 a2 a3 hc2'; go_wp2_with fail; go_meet; exact ⟨by rw [HO.out]; rfl, rfl⟩
        case rest =>
        obtain ⟨rfl, e5⟩ := hcut; rw [e5]; clear e5 wc; have HCL : Hid (yFr s ⟨2, nu, dp, nm, ats, tx, fr, tu⟩ = c2) := jh (by unfold yFr; rw [← HOL.out, HGD.out, decide_eq_true hc1, ← hc2']; simp [HC2.out, show ats.length = 0 by (have := HC3.out; omega)]); clear hc2'; cases hO : c2 with
        | false =>
         have HF := jh (HR.out.fail HEV.out (HNX.out.trans (HCL.out.trans hO))); go_wp2_with fail; go_ret3; exact ⟨⟨_, _, by rw [HF.out]; rfl, fun _ ht => yE4 HF.out ht⟩, HB6.out⟩
        | true =>
         have HRN := jh (HR.out.next HEV.out (HNX.out.trans (HCL.out.trans hO))); have f10 : IntKind.i64.wrap ((i : Int) + 1) = (i : Int) + 1 := IntWalk.i64_in _ (by omega); clear x1 x2 x3 z1 z2 z3; go_wp2_with fail; go_roundw
         case rel => exact ⟨i + 1, stp s ⟨2, nu, dp, nm, ats, tx, fr, tu⟩, op.dropLast, by simp, by unfold stp; rfl, by omega, HRN, HB6.out, by have h := HPOP6.out; have hl : op.dropLast.length = p := (by rw [List.length_dropLast, HEN.out, HP.out]; rfl); rw [hl] at h ⊢; exact h⟩
         case measure => simp [intOf]; omega
      ·have hk2' : (kd == 2) = false := by simpa using hk2
       have HF := jh (HR.out.fail HEV.out (yQ7 hk0 hk1 hk2)); go_wp2_with fail; go_ret3; exact ⟨⟨_, _, by rw [HF.out]; rfl, fun _ ht => yE4 HF.out ht⟩, HB5.out⟩
  ·have hie : i = n := by omega
   subst hie; have HF := jh (show yIt es = true by have := HR.out; rw [← HL.out] at this; exact this.whole); have HB9 := jh hb9; have HDN : Hid (∀ t, yA6 ck0 es = some t → t.dn = decide (0 < i ∧ op.length = 0)) := jh fun t ht => HR.out.last HL.out ht
   obtain ⟨en, hen⟩ := je (op.length); rw [hen] at hrow HDN; obtain ⟨oa, oc, rfl, _⟩ := yAb hrow; clear hb9 hrow hen; by_cases h0 : 0 < i
   ·have h0' : (0 : Int) < i := by omega
    by_cases h1 : en = 0
    ·have h1' : ((en : Nat) : Int) = 0 := by omega
     have HD2 := jh (show decide (0 < i ∧ en = 0) = true from decide_eq_true ⟨h0, h1⟩); subst h1; go_wp2_with fail
     all_goals go_ret3
     all_goals exact ⟨⟨_, _, by rw [HF.out]; rfl, fun t ht => by rw [HDN.out t ht, HD2.out]; first | done | rfl⟩, HB9.out⟩
    ·have h1' : (((en : Nat) : Int) == 0) = false := jn.2 (by omega); have h2' : ¬ ((en : Nat) : Int) = 0 := by omega
     have HD2 := jh (show decide (0 < i ∧ en = 0) = false from decide_eq_false fun h => h1 h.2); go_wp2_with fail
     all_goals go_ret3
     all_goals exact ⟨⟨_, _, by rw [HF.out]; rfl, fun t ht => by rw [HDN.out t ht, HD2.out]; first | done | rfl⟩, HB9.out⟩
   ·obtain rfl : i = 0 := by omega
    have HD2 := jh (show decide (0 < 0 ∧ en = 0) = false from decide_eq_false fun h => absurd h.1 (Nat.lt_irrefl 0)); go_wp2_with fail
    all_goals go_ret3
    all_goals exact ⟨⟨_, _, by rw [HF.out]; rfl, fun t ht => by rw [HDN.out t ht, HD2.out]; first | done | rfl⟩, HB9.out⟩
end Go.Proofs.YtkhejkfjhddobaaGreatDoor
