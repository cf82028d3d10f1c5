/- A region that draws its order, reads, and calls what makes new memory alone: walked in its lexical order. -/
import Derived.Test.YtkhejkfjhddobaaGreatDoorHoEvM
set_option maxRecDepth 100000
set_option maxHeartbeats 32000000
set_option linter.unusedSimpArgs false
namespace Gim
open Go Go.RowKit
structure UpW (w : World) where
 W : World
 h : Below w.heap.size w W
instance (w : World) : Inhabited (UpW w) := ⟨⟨w, jf _ _⟩⟩
theorem yA1 {P : Program} {id : Nat} {Q : Exit → Act → World → Prop} {a : Act} {w : World} {l : List Oper} (hm : P.follows .mixedOrders = true) (hB : Region.lexB .any l.toArray = true)
  (h : wpQuiet P l.toArray (fun w' => ∃ p : UpW w, w' = p.W) (fun a' => ∀ w', (∃ p : UpW w, w' = p.W) → Q .normal a' w') l a) : (Code.region id l.toArray true).wp P Q a w :=
 wp_region_quiet (C := fun w' => ∃ p : UpW w, w' = p.W) hm hB ⟨⟨_, (jf _ _).drew⟩, rfl⟩ (by simpa using h)
theorem yCO {P : Program} {f : FuncId} {args : Array Value} {w : World} {p : UpW w} {v : Value} (h : Calls P f args p.W fun e w' => e = .returned v ∧ Below p.W.heap.size p.W w') : Calls P f args p.W fun e w'' => e = .returned v ∧ ∃ q : UpW w, w'' = q.W :=
 h.mono fun _ _ ⟨he, hb⟩ => ⟨he, ⟨_, p.h.trans (hb.mono p.h.size)⟩, rfl⟩
theorem yAt {w : World} {a : Addr} {v : Value} (hb : a.block < w.heap.size) (h : w.cell? a = some v) : ∀ p : UpW w, p.W.cell? a = some v := fun p => (p.h.cell (p := a) hb).trans h
end Gim
namespace Go.Proofs.YtkhejkfjhddobaaGreatDoor
open Go.RowKit Gim
theorem yCa {W : World} {ats : List (ByteArray × ByteArray)} {a : Option Addr} {n cap i : Nat} (h : yAO W ats a n cap) (hi : i < n) : ∃ b o, a = some ⟨b, o, none⟩ ∧ b < W.heap.size ∧ W.cell? ⟨b, o + i * 2, none⟩ = some (.string (ats.getD i za).1) ∧ W.cell? ⟨b, o + i * 2 + 1, none⟩ = some (.string (ats.getD i za).2) := by
 obtain ⟨b, o, e, hb, hc⟩ := h.fit i hi; have hil : i < ats.length := by rw [h.len]; exact hi
 have := hc i _ (yAi hil za); exact ⟨b, o, e, hb, this.1, this.2⟩
section
attribute [local irreducible] Go.wpQuiet
attribute [local go_sem ↓] Go.wp_at_zero Go.wp_at_succ
theorem yRB {tg : Nat → Nat × Nat} {K : Nat} {vO : Value} {en : Nat} {es : List Value} {num : Int} {tx dn : Bool} (kd : Int) (nm : ByteArray) (ats : List (ByteArray × ByteArray)) (aa : Option Addr) (an ac : Nat) (c6 c7 : Value) (w : World) (h : yE9 w tg K vO en es num tx dn) (hT : yBd w) (hs : nm.size ≤ 9223372036854775807) (hen : en ≤ 1099511627776) (hb : yBm nm = true)
  (hA : yAO w ats aa an ac) (hat : yD0 ats = true) (hsz : ∀ x ∈ ats, x.1.size ≤ 9223372036854775807 ∧ x.2.size ≤ 9223372036854775807) (han : an ≤ 1099511627776) :
  Calls Tryz.prog 55 #[.pointer (some ⟨K, 0, none⟩), .agg #[.int .i64 kd, .int .i64 num, .int .i64 ((en : Int) + 1), .string nm, .slice aa an ac, .string ⟨#[]⟩, c6, c7]] w fun e w' => e = .returned (.bool true) ∧ Below w.heap.size w w' := by
 obtain ⟨W1, hW1⟩ := je (w.alloc (.cells #[.int .i64 kd, .int .i64 num, .int .i64 ((en : Int) + 1), .string nm, .slice aa an ac, .string ⟨#[]⟩, c6, c7] 45)); have b1 : Below w.heap.size w W1 := by rw [← hW1]; exact (jf _ _).alloc (jr _) _
 have hX1 : W1.heap[w.heap.size]? = some (.cells #[.int .i64 kd, .int .i64 num, .int .i64 ((en : Int) + 1), .string nm, .slice aa an ac, .string ⟨#[]⟩, c6, c7] 45) := by rw [← hW1]; exact jw _ _
 obtain ⟨oa, oc, rfl, _⟩ := yAb h.row; have hK1 := (b1.block K (jl h.hK)).trans h.hK; have y1 := jc hX1 1 rfl; have y2 := jc hX1 2 rfl; have y3 := jc hX1 3 rfl; have y4 := jc hX1 4 rfl; have y5 := jc hX1 5 rfl; have k0 := jc hK1 0 rfl; have k1 := jc hK1 1 rfl; have h1s : w.heap.size < W1.heap.size := jl hX1; have hK1s : K < W1.heap.size := jl hK1; have HNM : Hid (∀ W, Below W1.heap.size W1 W → Calls Tryz.prog 75 #[.string nm] W fun e w' => e = .returned (.bool true) ∧ Below W.heap.size W w') := jh fun W hW => by have := yCF nm W hs ((hT.below b1).below hW); rw [hb] at this; exact this
 have HAT : Hid (∀ i, i < an → ∃ b o n v, aa = some ⟨b, o, none⟩ ∧ (∀ W, Below w.heap.size w W → b < W.heap.size ∧ W.cell? ⟨b, o + i * 2, none⟩ = some (.string n) ∧ W.cell? ⟨b, o + i * 2 + 1, none⟩ = some (.string v) ∧
   Calls Tryz.prog 75 #[.string n] W (fun e w' => e = .returned (.bool true) ∧ Below W.heap.size W w') ∧ Calls Tryz.prog 56 #[.string v] W (fun e w' => e = .returned (.bool true) ∧ Below W.heap.size W w') ∧
   (0 < i → ∃ m, W.cell? ⟨b, o + (i - 1) * 2, none⟩ = some (.string m) ∧ Op.bytesLess m.toList n.toList = true))) := jh fun i hi => by
  obtain ⟨b, o, e, hbs, _⟩ := yCa hA hi; have hil : i < ats.length := by rw [hA.len]; exact hi
  have hm : ats.getD i za ∈ ats := by rw [jg, jk hil]; exact List.getElem_mem hil
  have hz := hsz _ hm; have hbi : atB ats i = true := by have := hat; unfold yD0 yDm at this; rw [List.all_eq_true] at this; exact this i (List.mem_range.2 hil)
  unfold atB at hbi; simp only [jb, Bool.or_eq_true, decide_eq_true_eq] at hbi; refine ⟨b, o, (ats.getD i za).1, (ats.getD i za).2, e, fun W hW => ?_⟩; have hAW := hA.below hW; obtain ⟨b', o', e', hbs', g1, g2⟩ := yCa hAW hi; have eo : b' = b ∧ o' = o := by rw [e] at e'; injection e' with e'; injection e' with e1 e2; exact ⟨e1.symm, e2.symm⟩
  obtain ⟨rfl, rfl⟩ := eo; refine ⟨hbs', g1, g2, ?_, ?_, fun h0 => ?_⟩
  ·have := yCF (ats.getD i za).1 W hz.1 (hT.below hW); rw [hbi.1.1] at this; exact this
  ·have := yDA (ats.getD i za).2 W hz.2 (hT.below hW); rw [hbi.1.2] at this; exact this
  ·obtain ⟨b2, o2, e2, _, g3, _⟩ := yCa hAW (i := i - 1) (by omega); have eo : b2 = b' ∧ o2 = o' := by rw [e] at e2; injection e2 with e2; injection e2 with e1 e2; exact ⟨e1.symm, e2.symm⟩
   obtain ⟨rfl, rfl⟩ := eo; exact ⟨_, g3, hbi.2.resolve_left (by omega)⟩
 have HLE := jh (And.intro hA.le hA.cap_le); have HB1 := jh b1; have HX1 := jh hX1; have HW1 := jh hW1; have HAN := jh han; have e1 : (num == num) = true := beq_self_eq_true _; have e2 : (num != num) = false := by simp
 have e3 : ((en : Int) + 1 != (en : Int) + 1) = false := by simp
 have e4 : IntKind.i64.wrap ((en : Int) + 1) = (en : Int) + 1 := IntWalk.i64_in _ (by omega); clear hX1 b1 hW1 hK1 h hT hs hb hA hat hsz han; go_enter Tryz.func55, Tryz.ntmps55; go_upto_region 1 with fail; rw [HW1.out]; go_cut [35] from 7 to 35 (fun v wx => v = .bool false ∧ Below W1.heap.size W1 wx)
 case first =>
  go_region_held3 (fun W => W.cell? ⟨w.heap.size, 1, none⟩ = some (.int .i64 num) ∧ W.cell? ⟨w.heap.size, 2, none⟩ = some (.int .i64 ((en : Int) + 1)) ∧ W.cell? ⟨w.heap.size, 3, none⟩ = some (.string nm) ∧ W.cell? ⟨w.heap.size, 5, none⟩ = some (.string ⟨#[]⟩) ∧ W.cell? ⟨K, 0, none⟩ = some (.slice oa en oc) ∧ W.cell? ⟨K, 1, none⟩ = some (.int .i64 num)) (first | go_keep | exact ⟨by assumption, by assumption, by assumption, by assumption, by assumption, by assumption⟩) (first
   | (go_at_call 75; refine (HNM.out _ (by first | exact jf _ _ | exact (jf _ _).drew)).mono ?_; rintro e w13 ⟨rfl, b13⟩; have c13 : Below W1.heap.size W1 w13 := (by first | exact b13 | exact ((jf _ _).drew).trans b13); have j1 := (c13.cell (p := ⟨w.heap.size, 1, none⟩) h1s).trans y1; have j2 := (c13.cell (p := ⟨w.heap.size, 2, none⟩) h1s).trans y2; have j3 := (c13.cell (p := ⟨w.heap.size, 3, none⟩) h1s).trans y3; have j5 := (c13.cell (p := ⟨w.heap.size, 5, none⟩) h1s).trans y5; have j6 := (c13.cell (p := ⟨K, 0, none⟩) hK1s).trans k0; have j7 := (c13.cell (p := ⟨K, 1, none⟩) hK1s).trans k1))
  have HB13 := jh c13; clear c13 b13 j1 j2 j3 j5 j6 j7
  ·go_wp2_with fail; go_meet; exact ⟨rfl, by first | exact HB13.out | exact HB13.out.drew⟩
 case rest =>
 obtain ⟨rfl, hb13⟩ := hcut; have HBF := jh (HB1.out.trans (hb13.mono HB1.out.size)); have HX13 := jh ((hb13.block _ h1s).trans HX1.out)
 replace y4 := (hb13.cell (p := ⟨w.heap.size, 4, none⟩) h1s).trans y4
 have h1c : w.heap.size < wc.heap.size := jt h1s hb13.size; clear e1 e2 e3 e4 k0 k1 y1 y2 y3 y5 hb13; go_wp2_with fail; clear y4; go_loopw [39] (fun v wr => ∃ i : Nat, v = .int .i64 i ∧ i ≤ an ∧ Below w.heap.size w wr ∧ wr.heap[w.heap.size]? = some (.cells #[.int .i64 kd, .int .i64 num, .int .i64 ((en : Int) + 1), .string nm, .slice aa an ac, .string ⟨#[]⟩, c6, c7] 45)) (fun v _ => an - (intOf v).toNat)
 case atStart => exact ⟨0, rfl, jz _, HBF.out, HX13.out⟩
 case round =>
  obtain ⟨i, rfl, hi, hb9, hX9⟩ := hrel; by_cases hin : i < an
  ·obtain ⟨b, o, n, v, rfl, hW⟩ := HAT.out i hin; have hin' : (i : Int) < an := by omega
   have hanl := HAN.out; have HB9 := jh hb9; have HX9 := jh hX9; have hX9s : w.heap.size < wr.heap.size := jl hX9; obtain ⟨g0, g1, g2, _, _, _⟩ := hW wr hb9; have hle := HLE.out.1; have HW := jh hW; clear hW hb9 hX9; go_upto_region 6 with fail; have HB5 : Hid (Below w.heap.size w (wr.alloc (.cells #[.string n, .string v] 61))) := jh (HB9.out.trans ((jf _ _).alloc HB9.out.size _)); have HX5 : Hid ((wr.alloc (.cells #[.string n, .string v] 61)).heap[w.heap.size]? = some (.cells #[.int .i64 kd, .int .i64 num, .int .i64 ((en : Int) + 1), .string nm, .slice (some ⟨b, o, none⟩) an ac, .string ⟨#[]⟩, c6, c7] 45)) := jh (by rw [heap_alloc_old _ _ hX9s]; exact HX9.out); have h5s : wr.heap.size < (wr.alloc (.cells #[.string n, .string v] 61)).heap.size := by rw [World.size_alloc]; exact Nat.lt_succ_self _
   have x0 : (wr.alloc (.cells #[.string n, .string v] 61)).cell? ⟨wr.heap.size, 0, none⟩ = some (.string n) := by unfold World.cell?; rw [jw]; rfl
   have x1 : (wr.alloc (.cells #[.string n, .string v] 61)).cell? ⟨wr.heap.size, 1, none⟩ = some (.string v) := by unfold World.cell?; rw [jw]; rfl
   obtain ⟨W5, hW5⟩ := je (wr.alloc (.cells #[.string n, .string v] 61)); rw [hW5] at HB5 HX5 h5s x0 x1 ⊢; obtain ⟨X, hX⟩ := je (wr.heap.size); rw [hX] at h5s x0 x1 ⊢; have y4 := jc HX5.out 4 rfl; have h5w : w.heap.size < W5.heap.size := jl HX5.out; have HCN : Hid (∀ W, Below W5.heap.size W5 W → Calls Tryz.prog 75 #[.string n] W (fun e w' => e = .returned (.bool true) ∧ Below W.heap.size W w')) := jh fun W hW => (HW.out W (HB5.out.trans (hW.mono HB5.out.size))).2.2.2.1
   have HCT : Hid (∀ W, Below W5.heap.size W5 W → Calls Tryz.prog 56 #[.string v] W (fun e w' => e = .returned (.bool true) ∧ Below W.heap.size W w')) := jh fun W hW => (HW.out W (HB5.out.trans (hW.mono HB5.out.size))).2.2.2.2.1
   have HPV : Hid (∀ W, Below W5.heap.size W5 W → 0 < i → ∃ m, W.cell? ⟨b, o + (i - 1) * 2, none⟩ = some (.string m) ∧ Op.bytesLess m.toList n.toList = true) := jh fun W hW => (HW.out W (HB5.out.trans (hW.mono HB5.out.size))).2.2.2.2.2
   clear hW5 hX g0 g1 g2 HB9 HX9; go_cut [69] from 44 to 69 (fun v wx => v = .bool false ∧ Below W5.heap.size W5 wx)
   case first =>
    have h5b : b < W5.heap.size := (HW.out W5 HB5.out).1; have f1 : (!true) = false := rfl; have u0 := yAt h5s x0; have u1 := yAt h5s x1; have u4 := yAt h5w y4; have hcn : Hid (∀ p : UpW W5, Calls Tryz.prog 75 #[.string n] p.W fun e w'' => e = .returned (.bool true) ∧ ∃ q : UpW W5, w'' = q.W) := jh fun p => yCO (HCN.out _ p.h)
    have hct : Hid (∀ p : UpW W5, Calls Tryz.prog 56 #[.string v] p.W fun e w'' => e = .returned (.bool true) ∧ ∃ q : UpW W5, w'' = q.W) := jh fun p => yCO (HCT.out _ p.h)
    by_cases hi0 : 0 < i
    ·obtain ⟨q, hq⟩ : ∃ q, i = q + 1 := ⟨i - 1, by omega⟩
     obtain ⟨m, hm, hlm⟩ := HPV.out W5 (jf _ _) hi0; rw [show i - 1 = q by omega] at hm; have u5 := yAt h5b hm; have f2 : IntKind.i64.wrap ((i : Int) - 1) = (q : Int) := by rw [show ((i : Int) - 1) = (q : Int) by omega]; exact IntWalk.i64_in _ (by omega)
     have f4 : (q : Int) < an := by omega
     have f5 : (0 : Int) < (i : Int) := by omega
     clear hq x0 x1 y4 hm; refine yA1 (by kernel_rfl) (by kernel_rfl) ?_
     iterate 26 (quiet_step (first | (go_at_call 75; with_reducible exact hcn.out _) | (go_at_call 56; with_reducible exact hct.out _)))
     refine wpQuiet_nil ?_; intro _ hw'; obtain ⟨⟨w6, hb6⟩, hw''⟩ := hw'; subst hw''; go_wp2_with fail; go_meet; exact ⟨rfl, hb6⟩
    ·have f5 : (0 < i) = False := eq_false hi0; clear x0 x1 y4 hi0; refine yA1 (by kernel_rfl) (by kernel_rfl) ?_
     iterate 26 (quiet_step (first | (go_at_call 75; with_reducible exact hcn.out _) | (go_at_call 56; with_reducible exact hct.out _)))
     refine wpQuiet_nil ?_; intro _ hw'; obtain ⟨⟨w6, hb6⟩, hw''⟩ := hw'; subst hw''; go_wp2_with fail; go_meet; exact ⟨rfl, hb6⟩
   case rest =>
   obtain ⟨rfl, hb8⟩ := hcut; have HRL : Hid (Below w.heap.size w wc ∧ wc.heap[w.heap.size]? = some (.cells #[.int .i64 kd, .int .i64 num, .int .i64 ((en : Int) + 1), .string nm, .slice (some ⟨b, o, none⟩) an ac, .string ⟨#[]⟩, c6, c7] 45)) := jh ⟨HB5.out.trans (hb8.mono HB5.out.size), (hb8.block _ h5w).trans HX5.out⟩; clear hb8 x0 x1 y4; go_wp2_with fail; go_roundw
   case rel => exact ⟨i + 1, by simp, by omega, HRL.out⟩
   case measure => simp [intOf]; omega
  ·have e : i = an := by omega
   subst e; have HB9 := jh hb9; clear hb9 hX9; go_wp2_with fail; go_ret; exact ⟨rfl, HB9.out⟩
end
section
attribute [local go_sem ↓] Go.wp_at_zero Go.wp_at_succ
theorem yOt {tg : Nat → Nat × Nat} {K : Nat} {vO : Value} {en : Nat} {es : List Value} {num : Int} {tx : Bool} (nm : ByteArray) (w : World) (h : yE9 w tg K vO en es num tx false) (hT : yBd w) (hs : nm.size ≤ 9223372036854775807) (hen : en ≤ 1048576) (hb : yBm nm = true) (h0 : 0 < en ∨ num = 0) (hnum : 0 ≤ num ∧ num ≤ 1099511627776)
  (ats : List (ByteArray × ByteArray)) (aa : Option Addr) (an ac : Nat) (c6 c7 : Int) (hA : yAO w ats aa an ac) (hat : yD0 ats = true) (hsz : ∀ x ∈ ats, x.1.size ≤ 9223372036854775807 ∧ x.2.size ≤ 9223372036854775807) (han : an ≤ 1099511627776) :
  Calls Tryz.prog 30 #[.pointer (some ⟨K, 0, none⟩), .agg #[.int .i64 0, .int .i64 num, .int .i64 ((en : Int) + 1), .string nm, .slice aa an ac, .string ⟨#[]⟩, .int .i64 c6, .int .i64 c7]] w fun e w' => e = .returned (.bool true) ∧ ∃ vP, CkM 0 w w' K vO vP (en + 1) (es ++ yBP num ((en : Int) + 1) nm) (num + 1) false false := by
 obtain ⟨W1, hW1⟩ := je (w.alloc (.cells #[.int .i64 0, .int .i64 num, .int .i64 ((en : Int) + 1), .string nm, .slice aa an ac, .string ⟨#[]⟩, .int .i64 c6, .int .i64 c7] 45)); have b1 : Below w.heap.size w W1 := by rw [← hW1]; exact (jf _ _).alloc (jr _) _
 have hX1 : W1.heap[w.heap.size]? = some (.cells #[.int .i64 0, .int .i64 num, .int .i64 ((en : Int) + 1), .string nm, .slice aa an ac, .string ⟨#[]⟩, .int .i64 c6, .int .i64 c7] 45) := by rw [← hW1]; exact jw _ _
 obtain ⟨oa, oc, rfl, _⟩ := yAb h.row; have hKs := jl h.hK; have h1 : yE9 W1 tg K (.slice oa en oc) en es num tx false := h.keep fun b hl _ => ⟨b1.block b hl, rfl⟩
 have hK1 := h1.hK; have y0 := jc hX1 0 rfl; have y1 := jc hX1 1 rfl; have y2 := jc hX1 2 rfl; have y3 := jc hX1 3 rfl; have y4 := jc hX1 4 rfl; have y5 := jc hX1 5 rfl; have y6 := jc hX1 6 rfl; have y7 := jc hX1 7 rfl; have k3 := jc hK1 3 rfl; have h1s : w.heap.size < W1.heap.size := jl hX1; have hK1s : K < W1.heap.size := jl hK1; have HOP := jh (yRB 0 nm ats aa an ac (.int .i64 c6) (.int .i64 c7) W1 h1 (hT.below b1) hs (by omega) hb (hA.below b1) hat hsz han); have HB1 := jh b1; have HW1 := jh hW1; have HX1 := jh hX1; have HK1 := jh hK1; have HROW := jh h1.row; have HNE : Hid (some K ≠ (Value.slice oa en oc).ownBlock) := jh fun e => by have h2 := h.tg4 K e.symm; rw [h.tK] at h2; cases h2
 have HLT : Hid (∀ g, (Value.slice oa en oc).ownBlock = some g → g < w.heap.size) := jh fun g hg => (World.ownsRow.lt h.row g hg).2
 have H0 := jh h0; have HNUM := jh hnum; clear hX1 b1 hW1 hK1 h h1 hT hs hb h0 hnum hA hat hsz han; go_enter Tryz.func30, Tryz.ntmps30; go_upto_region 1 with fail; rw [HW1.out]; go_upto_block 0 with fail; go_cut [5] from 13 to 102 (fun v wx => v = .bool true ∧ Below W1.heap.size W1 wx)
 case first =>
  go_wp2_with fail; refine HOP.out.mono ?_; rintro e w2 ⟨rfl, hb2⟩; have hK2 := (hb2.block K hK1s).trans HK1.out; have k0 := jc hK2 0 rfl; have k1 := jc hK2 1 rfl; have HB2 := jh hb2; clear hK2 hb2; by_cases he : 0 < en
  ·have he' : (0 : Int) < en := by omega
   go_wp2_with fail; go_meet; exact ⟨rfl, HB2.out⟩
  ·have h00 : en = 0 := by omega
   have hnn : num = 0 := H0.out.resolve_left he; subst h00 hnn; go_wp2_with fail; go_meet; exact ⟨rfl, HB2.out⟩
 case rest =>
 obtain ⟨rfl, hb2⟩ := hcut; have hK2 := (hb2.block K hK1s).trans HK1.out; have hX2 := (hb2.block _ h1s).trans HX1.out; have y0 := jc hX2 0 rfl; have k2 := jc hK2 2 rfl; have zk := yAd hK2 2; have hKc : K < wc.heap.size := jl hK2; have hXc : w.heap.size < wc.heap.size := jl hX2; have hKX : w.heap.size ≠ K := by omega
 have HB2 := jh hb2; have HK2 := jh hK2; have HX2 := jh hX2; clear hb2 hK2 hX2; have HW5 : Hid (∃ W5, wc.setCell ⟨K, 2, none⟩ (.bool false) = W5 ∧ W5.heap[K]? = some (.cells #[.slice oa en oc, .int .i64 num, .bool false, .bool false] 101) ∧ W5.heap[w.heap.size]? = some (.cells #[.int .i64 0, .int .i64 num, .int .i64 ((en : Int) + 1), .string nm, .slice aa an ac, .string ⟨#[]⟩, .int .i64 c6, .int .i64 c7] 45) ∧ W5.ownsRow 0 45 8 (.slice oa en oc) en es ∧ Fr (fun b => b = K ∨ (Value.slice oa en oc).ownBlock = some b) w W5) := jh (by
  have hb := HB1.out.trans (HB2.out.mono HB1.out.size); refine ⟨_, rfl, by rw [yAu HK2.out]; rfl, (js wc ⟨K, 2, none⟩ _ _ hKX).trans HX2.out, yAa HROW.out fun g hg => ?_, (Fr.of hb).set K 2 _ (.inl rfl)⟩; have h1 := HLT.out g hg; have h2 : g ≠ K := by rintro rfl; exact HNE.out hg.symm
  exact (js wc ⟨K, 2, none⟩ _ g h2).trans (HB2.out.block g (Nat.lt_trans h1 h1s)))
 go_upto_region 15 with fail; obtain ⟨W5, hW5, hK5, hX5, hR5, hF5⟩ := HW5.out; rw [hW5]; have k0 := jc hK5 0 rfl; have zk0 := yAd hK5 0; have y1 := jc hX5 1 rfl; have y2 := jc hX5 2 rfl; have y3 := jc hX5 3 rfl; have hK5s : K < W5.heap.size := jl hK5; have hX5s : w.heap.size < W5.heap.size := jl hX5; have HROW5 : Hid ((W5.alloc (.cells #[.int .i64 0, .int .i64 num, .int .i64 ((en : Int) + 1), .string nm, .slice none 0 0, .string ⟨#[]⟩, .int .i64 0, .int .i64 0] 45)).drew.ownsRow 0 45 8 (.slice oa en oc) en es) := jh (yAa (World.ownsRow.alloc hR5 _) fun _ _ => rfl); have HNEW : Hid (∀ j u, (yBP num ((en : Int) + 1) nm)[j]? = some u → (W5.alloc (.cells #[.int .i64 0, .int .i64 num, .int .i64 ((en : Int) + 1), .string nm, .slice none 0 0, .string ⟨#[]⟩, .int .i64 0, .int .i64 0] 45)).drew.cell? ⟨W5.heap.size, j, none⟩ = some u) := jh (yPJ W5 num ((en : Int) + 1) nm 45); have HLT5 : Hid (W5.heap.size < (W5.alloc (.cells #[.int .i64 0, .int .i64 num, .int .i64 ((en : Int) + 1), .string nm, .slice none 0 0, .string ⟨#[]⟩, .int .i64 0, .int .i64 0] 45)).drew.heap.size) := jh (by show _ < (W5.alloc _).heap.size; rw [World.size_alloc]; exact Nat.lt_succ_self _); have HK5 := jh hK5; have HF5 := jh hF5; have HEN := jh (show en < 1099511627776 by omega); clear hW5 HW5 hK5 hX5 hR5 hF5 k2 zk y0 HK2 HX2; go_cut [] from 115 to 130 (fun wx => ∃ vP, CkM 0 w wx K (.slice oa en oc) vP (en + 1) (es ++ yBP num ((en : Int) + 1) nm) num false false)
 case first =>
  go_region_law (first
   | (refine yBs _ (by rfl) (.tmp 119) (.tmp 127) 22 45 (by rfl) _ 8 96 yKM Tryz.underlying22 (by rfl) (by decide) (by decide) 0 (.slice oa en oc) en es (by rfl) HROW5.out (yBP num ((en : Int) + 1) nm) (by rfl) (yP1 _ _ _) W5.heap.size (by rfl) HNEW.out HEN.out (jz _) ?_; intro v3 w3 own3 grow3 at3; obtain ⟨a3, c3, rfl, _⟩ := yAb own3; have hgr : W5.grownBy w3 (Value.slice oa en oc).ownBlock := ⟨grow3.os, grow3.tape, grow3.output, ju (Nat.le_of_lt HLT5.out) grow3.size, fun b hb hne => (grow3.block b (Nat.lt_trans hb HLT5.out) hne).trans (heap_alloc_old W5 _ hb)⟩; have hat : (Value.slice a3 (en + 1) c3).ownBlock = (Value.slice oa en oc).ownBlock ∨ ∃ j, (Value.slice a3 (en + 1) c3).ownBlock = some j ∧ W5.heap.size ≤ j := at3.elim .inl fun e => .inr ⟨_, e, Nat.le_of_lt HLT5.out⟩; have hxb3 := (hgr.block _ hK5s HNE.out).trans HK5.out; have hx3 : w3.cell? ⟨K, 0, none⟩ = some (.slice oa en oc) := (by simp [World.cell?, hxb3]); have hzf3 : w3.frozen? ⟨K, 0, none⟩ = false := (by simp [World.frozen?, hxb3]); have hxs3 : K < w3.heap.size := jt hK5s hgr.size; have HX3 := jh hxb3; have HG3 := jh hgr; have HAT3 := jh hat; have HOW3 := jh own3; clear own3 grow3 at3 hgr hat hxb3))
  all_goals
   go_wp2_with fail; go_meet; refine ⟨.slice a3 (en + 1) c3, ((yOI HF5.out HG3.out fun g hg => .inr hg).set K 0 _ (.inl rfl)), by rw [yAu HX3.out]; rfl, yAa HOW3.out fun g hg => js w3 ⟨K, 0, none⟩ _ g ?_, HAT3.out.imp id fun e => ?_⟩
   ·rintro rfl; rcases HAT3.out with e | ⟨j, e1, e2⟩
    ·exact HNE.out (hg.symm.trans e)
    ·rw [e1] at hg; injection hg with hg; omega
   ·obtain ⟨j, e1, e2⟩ := e; exact ⟨j, e1, by omega⟩
 case rest =>
 obtain ⟨vP, hm⟩ := hcut; have k1 := jc hm.hK 1 rfl; have zk1 := yAd hm.hK 1; have hn0 := HNUM.out.1; have hn1 := HNUM.out.2; have hKw : K < wc.heap.size := jl hm.hK; have HFIN : Hid (CkM 0 w (wc.setCell ⟨K, 1, none⟩ (.int .i64 (num + 1))) K (.slice oa en oc) vP (en + 1) (es ++ yBP num ((en : Int) + 1) nm) (num + 1) false false) := jh (by
  refine ⟨hm.fr.set K 1 _ (.inl rfl), by rw [yAu hm.hK]; rfl, yAa hm.row fun g hg => js wc ⟨K, 1, none⟩ _ g ?_, hm.at_⟩; rintro rfl; rcases hm.at_ with e | ⟨j, e1, e2⟩
  ·exact HNE.out (hg.symm.trans e)
  ·rw [e1] at hg; injection hg with hg; omega)
 clear hm k0 zk0 y1 y2 y3; go_wp2_with fail; go_ret; exact ⟨rfl, vP, HFIN.out⟩
end
end Go.Proofs.YtkhejkfjhddobaaGreatDoor
