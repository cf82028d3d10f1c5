/- Open nodes of gimlet/hopes: in plain terms, and in memory. -/
import Derived.Test.YtkhejkfjhddobaaGreatDoorNCompM
import Derived.Test.YtkhejkfjhddobaaGreatDoorHuntAddM
import Derived.Test.YtkhejkfjhddobaaGreatDoorHandedM
set_option maxRecDepth 100000
set_option maxHeartbeats 4000000
set_option linter.unusedSimpArgs false
namespace Gim
open Go Go.RowKit
def bl (l : List Bool) : Array Value := (l.map Value.bool).toArray
def il (l : List Int) : Array Value := (l.map (Value.int .i64)).toArray
theorem yCL (n : Nat) : madeCells #[Value.bool false] n = bl (List.replicate n false) := by
 apply Array.ext
 ·simp [madeCells, bl]
 ·intro i h1 h2; simp [madeCells, bl] at h1 ⊢; simp [Nat.mod_one]
theorem yDr (n : Nat) : madeCells #[Value.int .i64 0] n = il (List.replicate n 0) := by
 apply Array.ext
 ·simp [madeCells, il]
 ·intro i h1 h2; simp [madeCells, il] at h1 ⊢; simp [Nat.mod_one]
theorem yE3 {W : World} {b i : Nat} {l : List Bool} {t : TypeId} {x : Bool} (h : W.heap[b]? = some (.cells (bl l) t)) (hx : l[i]? = some x) : W.cell? ⟨b, i, none⟩ = some (.bool x) := by simp [World.cell?, h, bl, hx]
theorem yAy {W : World} {b i : Nat} {l : List Int} {t : TypeId} {x : Int} (h : W.heap[b]? = some (.cells (il l) t)) (hx : l[i]? = some x) : W.cell? ⟨b, i, none⟩ = some (.int .i64 x) := by simp [World.cell?, h, il, hx]
theorem yAd {W : World} {b : Nat} {a : Array Value} {t : TypeId} (h : W.heap[b]? = some (.cells a t)) (i : Nat) : W.frozen? ⟨b, i, none⟩ = false := by simp [World.frozen?, h]
theorem yQ5 {W : World} {b i : Nat} {l : List Bool} {t : TypeId} (h : W.heap[b]? = some (.cells (bl l) t)) (x : Bool) : (W.setCell ⟨b, i, none⟩ (.bool x)).heap[b]? = some (.cells (bl (l.set i x)) t) := by rw [yAu h]; simp [bl, List.map_set]
theorem yBB {W : World} {b i : Nat} {l : List Int} {t : TypeId} (h : W.heap[b]? = some (.cells (il l) t)) (x : Int) : (W.setCell ⟨b, i, none⟩ (.int .i64 x)).heap[b]? = some (.cells (il (l.set i x)) t) := by rw [yAu h]; simp [il, List.map_set]
structure HuS where
 c : Int
 N : Nat
 T : List Int
 l : List Int
 whole : Bool
structure FrS where
 kind : Int
 name : ByteArray
 child : List Bool
 deep : List Bool
 attrs : List Int
 hunts : List (Option HuS)
def yNt : Option HuS → Nat → Value
 | none, _ => .pointer none
 | some _, b => .pointer (some ⟨b, 0, none⟩)
def yCU (hs : List (Option HuS)) (hp : Nat → Nat × Value × Value) : Array Value := ((List.range hs.length).map fun i => yNt (hs.getD i none) (hp i).1).toArray
theorem yEX {W : World} {b i : Nat} {hs : List (Option HuS)} {hp : Nat → Nat × Value × Value} {t : TypeId} {x : Option HuS} (h : W.heap[b]? = some (.cells (yCU hs hp) t)) (hx : hs[i]? = some x) : W.cell? ⟨b, i, none⟩ = some (yNt x (hp i).1) := by obtain ⟨hi, e⟩ := ji.1 hx; simp [World.cell?, h, yCU, hi, jg, e]
theorem yRW {W : World} {b i : Nat} {hs : List (Option HuS)} {hp : Nat → Nat × Value × Value} {t : TypeId} (h : W.heap[b]? = some (.cells (yCU hs hp) t)) (x : HuS) (q : Nat × Value × Value) :
  (W.setCell ⟨b, i, none⟩ (.pointer (some ⟨q.1, 0, none⟩))).heap[b]? = some (.cells (yCU (hs.set i (some x)) (fun j => if j = i then q else hp j)) t) := by
 rw [yAu h]; congr 2; apply Array.ext
 ·simp [yCU]
 ·intro j h1 h2; simp only [yCU, Array.size_setIfInBounds, List.size_toArray, List.length_map, List.length_range] at h1; by_cases hj : i = j
  ·subst hj; simp [yCU, jg, h1, yNt]
  ·have hj' : ¬ j = i := fun e => hj e.symm
   simp [yCU, jg, hj, hj']
theorem yQh (n : Nat) (hp : Nat → Nat × Value × Value) : madeCells #[Value.pointer none] n = yCU (List.replicate n none) hp := by
 apply Array.ext
 ·simp [madeCells, yCU]
 ·intro i h1 h2; simp [madeCells] at h1; simp [madeCells, yCU, Nat.mod_one, jg, h1, yNt]
end Gim
namespace Go.Proofs.YtkhejkfjhddobaaGreatDoor
open Go.RowKit Gim
theorem St.keep {w w' : World} {H : Nat} {c : Int} {N : Nat} {T : List Int} {tv bv : Value} {l : List Int} {whole : Bool} (h : St w (H + 1) H c N T tv bv l whole) (hH : w'.heap[H]? = w.heap[H]?) (ht : ∀ g, tv.ownBlock = some g → w'.heap[g]? = w.heap[g]?) (hb : ∀ g, bv.ownBlock = some g → w'.heap[g]? = w.heap[g]?) : St w' (H + 1) H c N T tv bv l whole := by obtain ⟨k, hm, hx⟩ := h; have h2 := hH.trans hm.hH; exact ⟨k, ⟨h2, yBq hm.rt ht, yBq hm.rb hb, hm.lt, (jl h2)⟩, hx⟩
theorem St.lt {w : World} {H : Nat} {c : Int} {N : Nat} {T : List Int} {tv bv : Value} {l : List Int} {whole : Bool} (h : St w (H + 1) H c N T tv bv l whole) : H < w.heap.size ∧ (∀ g, tv.ownBlock = some g → H < g ∧ g < w.heap.size) ∧ (∀ g, bv.ownBlock = some g → H < g ∧ g < w.heap.size) := by obtain ⟨k, hm, _⟩ := h; exact ⟨(jl hm.hH), fun g hg => ⟨(Row.lt hm.rt g hg).1, (Row.lt hm.rt g hg).2⟩, fun g hg => ⟨(Row.lt hm.rb g hg).1, (Row.lt hm.rb g hg).2⟩⟩
def ySE (s : HuS) : Prop := 0 ≤ s.c ∧ s.c ≤ 8 ∧ (¬ (1 ≤ s.c ∧ s.c ≤ 5) → s.T = [])
structure FrI (W : World) (tg : Nat → Nat × Nat) (j F cB dB aB hB : Nat) (hp : Nat → Nat × Value × Value) (nr np : Nat) (f : FrS) : Prop where
 hF : W.heap[F]? = some (.cells #[.int .i64 f.kind, .string f.name, .slice (some ⟨cB, 0, none⟩) nr nr, .slice (some ⟨dB, 0, none⟩) nr nr, .slice (some ⟨aB, 0, none⟩) np np, .slice (some ⟨hB, 0, none⟩) np np] 117)
 hc : W.heap[cB]? = some (.cells (bl f.child) 4)
 hd : W.heap[dB]? = some (.cells (bl f.deep) 4)
 ha : W.heap[aB]? = some (.cells (il f.attrs) 67)
 hh : W.heap[hB]? = some (.cells (yCU f.hunts hp) 118)
 lc : f.child.length = nr
 ld : f.deep.length = nr
 la : f.attrs.length = np
 lh : f.hunts.length = np
 hu : ∀ i s, f.hunts[i]? = some (some s) → St W ((hp i).1 + 1) (hp i).1 s.c s.N s.T (hp i).2.1 (hp i).2.2 s.l s.whole ∧ ySE s ∧ tg (hp i).1 = (j, 5 + 2 * i) ∧ (∀ g, (hp i).2.1.ownBlock = some g → tg g = (j, 6 + 2 * i)) ∧ ∀ g, (hp i).2.2.ownBlock = some g → tg g = (j, 6 + 2 * i)
 tF : tg F = (j, 0)
 tc : tg cB = (j, 1)
 td : tg dB = (j, 2)
 ta : tg aB = (j, 3)
 th : tg hB = (j, 4)
def FrM (W : World) (tg : Nat → Nat × Nat) (j F nr np : Nat) (f : FrS) : Prop := ∃ cB dB aB hB hp, FrI W tg j F cB dB aB hB hp nr np f
section
variable {W : World} {tg : Nat → Nat × Nat} {j F cB dB aB hB : Nat} {hp : Nat → Nat × Value × Value} {nr np : Nat} {f : FrS}
theorem FrI.keep (h : FrI W tg j F cB dB aB hB hp nr np f) {W' : World} {tg' : Nat → Nat × Nat} {j' : Nat} (hk : ∀ b k, b < W.heap.size → tg b = (j, k) → W'.heap[b]? = W.heap[b]?) (ht : ∀ b k, b < W.heap.size → tg b = (j, k) → tg' b = (j', k)) : FrI W' tg' j' F cB dB aB hB hp nr np f := by
 have lt : ∀ {b : Nat} {o : Obj}, W.heap[b]? = some o → b < W.heap.size := fun e => (jl e)
 refine ⟨(hk F 0 (lt h.hF) h.tF).trans h.hF, (hk cB 1 (lt h.hc) h.tc).trans h.hc, (hk dB 2 (lt h.hd) h.td).trans h.hd, (hk aB 3 (lt h.ha) h.ta).trans h.ha, (hk hB 4 (lt h.hh) h.th).trans h.hh, h.lc, h.ld, h.la, h.lh, fun i s hs => ?_, ht _ _ (lt h.hF) h.tF, ht _ _ (lt h.hc) h.tc, ht _ _ (lt h.hd) h.td, ht _ _ (lt h.ha) h.ta, ht _ _ (lt h.hh) h.th⟩; obtain ⟨h1, h0, h2, h3, h4⟩ := h.hu i s hs; have hl := St.lt h1; exact ⟨h1.keep (hk _ _ hl.1 h2) (fun g hg => hk g _ (hl.2.1 g hg).2 (h3 g hg)) (fun g hg => hk g _ (hl.2.2 g hg).2 (h4 g hg)), h0, ht _ _ hl.1 h2, fun g hg => ht g _ (hl.2.1 g hg).2 (h3 g hg), fun g hg => ht g _ (hl.2.2 g hg).2 (h4 g hg)⟩
theorem FrM.keep (h : FrM W tg j F nr np f) {W' : World} {tg' : Nat → Nat × Nat} {j' : Nat} (hk : ∀ b k, b < W.heap.size → tg b = (j, k) → W'.heap[b]? = W.heap[b]?) (ht : ∀ b k, b < W.heap.size → tg b = (j, k) → tg' b = (j', k)) : FrM W' tg' j' F nr np f := by obtain ⟨cB, dB, aB, hB, hp, h⟩ := h; exact ⟨cB, dB, aB, hB, hp, h.keep hk ht⟩
theorem FrI.below (h : FrI W tg j F cB dB aB hB hp nr np f) {W' : World} (hb : Below W.heap.size W W') : FrI W' tg j F cB dB aB hB hp nr np f := h.keep (fun b _ hl _ => hb.block b hl) (fun _ _ _ e => e)
theorem FrM.below (h : FrM W tg j F nr np f) {W' : World} (hb : Below W.heap.size W W') : FrM W' tg j F nr np f := h.keep (fun b _ hl _ => hb.block b hl) (fun _ _ _ e => e)
theorem FrI.setA (h : FrI W tg j F cB dB aB hB hp nr np f) (i : Nat) (x : Int) : FrI (W.setCell ⟨aB, i, none⟩ (.int .i64 x)) tg j F cB dB aB hB hp nr np { f with attrs := f.attrs.set i x } := by
 have hk : ∀ b k, tg b = (j, k) → k ≠ 3 → (W.setCell ⟨aB, i, none⟩ (.int .i64 x)).heap[b]? = W.heap[b]? := fun b k e hne => js W ⟨aB, i, none⟩ _ b (by rintro rfl; rw [h.ta] at e; injection e with _ e; exact hne e.symm)
 refine ⟨(hk F 0 h.tF (by omega)).trans h.hF, (hk cB 1 h.tc (by omega)).trans h.hc, (hk dB 2 h.td (by omega)).trans h.hd, yBB h.ha x, (hk hB 4 h.th (by omega)).trans h.hh, h.lc, h.ld, by simp [h.la], h.lh, fun k s hs => ?_, h.tF, h.tc, h.td, h.ta, h.th⟩; obtain ⟨h1, h0, h2, h3, h4⟩ := h.hu k s hs; exact ⟨h1.keep (hk _ _ h2 (by omega)) (fun g hg => hk g _ (h3 g hg) (by omega)) (fun g hg => hk g _ (h4 g hg) (by omega)), h0, h2, h3, h4⟩
theorem FrI.setC (h : FrI W tg j F cB dB aB hB hp nr np f) (i : Nat) (x : Bool) : FrI (W.setCell ⟨cB, i, none⟩ (.bool x)) tg j F cB dB aB hB hp nr np { f with child := f.child.set i x } := by
 have hk : ∀ b k, tg b = (j, k) → k ≠ 1 → (W.setCell ⟨cB, i, none⟩ (.bool x)).heap[b]? = W.heap[b]? := fun b k e hne => js W ⟨cB, i, none⟩ _ b (by rintro rfl; rw [h.tc] at e; injection e with _ e; exact hne e.symm)
 refine ⟨(hk F 0 h.tF (by omega)).trans h.hF, yQ5 h.hc x, (hk dB 2 h.td (by omega)).trans h.hd, (hk aB 3 h.ta (by omega)).trans h.ha, (hk hB 4 h.th (by omega)).trans h.hh, by simp [h.lc], h.ld, h.la, h.lh, fun k s hs => ?_, h.tF, h.tc, h.td, h.ta, h.th⟩; obtain ⟨h1, h0, h2, h3, h4⟩ := h.hu k s hs; exact ⟨h1.keep (hk _ _ h2 (by omega)) (fun g hg => hk g _ (h3 g hg) (by omega)) (fun g hg => hk g _ (h4 g hg) (by omega)), h0, h2, h3, h4⟩
theorem FrI.setD (h : FrI W tg j F cB dB aB hB hp nr np f) (i : Nat) (x : Bool) : FrI (W.setCell ⟨dB, i, none⟩ (.bool x)) tg j F cB dB aB hB hp nr np { f with deep := f.deep.set i x } := by
 have hk : ∀ b k, tg b = (j, k) → k ≠ 2 → (W.setCell ⟨dB, i, none⟩ (.bool x)).heap[b]? = W.heap[b]? := fun b k e hne => js W ⟨dB, i, none⟩ _ b (by rintro rfl; rw [h.td] at e; injection e with _ e; exact hne e.symm)
 refine ⟨(hk F 0 h.tF (by omega)).trans h.hF, (hk cB 1 h.tc (by omega)).trans h.hc, yQ5 h.hd x, (hk aB 3 h.ta (by omega)).trans h.ha, (hk hB 4 h.th (by omega)).trans h.hh, h.lc, by simp [h.ld], h.la, h.lh, fun k s hs => ?_, h.tF, h.tc, h.td, h.ta, h.th⟩; obtain ⟨h1, h0, h2, h3, h4⟩ := h.hu k s hs; exact ⟨h1.keep (hk _ _ h2 (by omega)) (fun g hg => hk g _ (h3 g hg) (by omega)) (fun g hg => hk g _ (h4 g hg) (by omega)), h0, h2, h3, h4⟩
end
end Go.Proofs.YtkhejkfjhddobaaGreatDoor
namespace Gim
open Go Go.RowKit
def yCE (x : Int) : Nat := x.toNat
end Gim
namespace Go.Proofs.YtkhejkfjhddobaaGreatDoor
open Go.RowKit Gim
def yDD (p : yAG) (s : ByteArray) : Int := tB p.cmp (yCE p.num) (yCl p.cmp p.txt) (rs s) true
def ySV (p : yAG) : Prop := 0 ≤ p.cmp ∧ p.cmp ≤ 8 ∧ 0 ≤ p.num ∧ p.txt.size ≤ 1099511627776
theorem yMk (op : Int) (va : Value) (first count : Int) (attr : ByteArray) (cmp : Int) (txt : ByteArray) (num : Int) (args : List Int) (s : ByteArray) (w : World) (hok : ySV ⟨op, args, first, count, attr, cmp, txt, num⟩) (hs : s.size ≤ 1099511627776) (hva : ∃ a n c, va = .slice a n c) :
  Calls Tryz.prog 63 #[.agg #[.int .i64 op, va, .int .i64 first, .int .i64 count, .string attr, .int .i64 cmp, .string txt, .int .i64 num], .string s] w fun e w' => e = .returned (.int .i64 (yDD ⟨op, args, first, count, attr, cmp, txt, num⟩ s)) ∧ Below w.heap.size w w' := by
 obtain ⟨a, n, c, rfl⟩ := hva; obtain ⟨hc0, hc8, hn0, htx⟩ := hok; simp only at hc0 hc8 hn0 htx; obtain ⟨N, rfl⟩ : ∃ N : Nat, num = N := ⟨num.toNat, by omega⟩
 obtain ⟨W1, hW1⟩ := je (w.alloc (.cells #[.int .i64 op, .slice a n c, .int .i64 first, .int .i64 count, .string attr, .int .i64 cmp, .string txt, .int .i64 N] 59)); have hX : W1.heap[w.heap.size]? = some (.cells #[.int .i64 op, .slice a n c, .int .i64 first, .int .i64 count, .string attr, .int .i64 cmp, .string txt, .int .i64 N] 59) := by rw [← hW1]; exact jw _ _
 have hb1 : Below w.heap.size w W1 := by rw [← hW1]; exact (jf _ _).alloc (jr _) _
 have x5 := jc hX 5 rfl; have x6 := jc hX 6 rfl; have x7 := jc hX 7 rfl; have HN := jh (yJC W1 cmp txt N hc0 hc8 htx); have HB := jh hb1; have HW1 := jh hW1; have HC := jh (And.intro hc0 hc8); have HS := jh hs; clear hX hb1 hW1 hc0 hc8 hn0 htx hs; go_enter Tryz.func63, Tryz.ntmps63; go_upto_region 1 with fail; rw [HW1.out]; go_wp2_with fail; refine HN.out.mono ?_; rintro e w2 ⟨tv, bv, rfl, hst, hb2⟩; have HB2 := jh (HB.out.trans (hb2.mono HB.out.size)); have HA := jh (yJ8 w2 _ _ cmp N _ tv bv [] s hst (yJI cmp txt) (by have := HS.out; simp; omega)); have HL := jh (St.lt hst).1; clear hst hb2 x5 x6 x7; go_wp2_with fail; refine HA.out.mono ?_; rintro e w3 ⟨rfl, hf3, hst3⟩; have HB3 := jh (show Below w.heap.size w w3 from HB2.out.trans (hf3.below HB2.out.size fun j hj => by have := HB.out.size; omega)); have HCL := jh hst3.close; clear hf3 hst3; go_wp2_with fail; refine HCL.out.mono ?_; rintro e w4 ⟨rfl, hf4, hst4⟩; have HB4 := jh (show Below w.heap.size w w4 from HB3.out.trans (hf4.below HB3.out.size fun j hj => by have := HB.out.size; omega)); have HT := jh (hst4.truth HC.out.1 HC.out.2); clear hf4 hst4; go_wp2_with fail; refine HT.out.mono ?_; rintro e w5 ⟨rfl, m, rfl⟩; go_wp2_with fail; go_ret; exact ⟨by simp [yDD, yCE], HB4.out.trans (((yAJ.refl _).drewN m).below _)⟩
def yFl (f : FrS) (ts : Int) (nm : ByteArray) : Int :=
 if (if ts = 0 then f.kind = 1 ∧ f.name = nm else if ts = 1 then f.kind = 1 else if ts = 2 then f.kind = 2 else True) then 2 else 0
theorem yOu (f : FrS) (v2 v3 v4 v5 : Value) (F : Nat) (ax ts : Int) (nm : ByteArray) (vp : Value) (w : World) (hF : w.heap[F]? = some (.cells #[.int .i64 f.kind, .string f.name, v2, v3, v4, v5] 117)) (hvp : ∃ a n c, vp = .slice a n c) :
  Calls Tryz.prog 105 #[.pointer (some ⟨F, 0, none⟩), .agg #[.int .i64 ax, .int .i64 ts, .string nm, vp]] w fun e w' => e = .returned (.int .i64 (yFl f ts nm)) ∧ Below w.heap.size w w' := by
 obtain ⟨a, n, c, rfl⟩ := hvp; obtain ⟨kd, hkd⟩ := je (f.kind); obtain ⟨fn, hfn⟩ := je (f.name); rw [hkd, hfn] at hF; have k0 := jc hF 0 rfl; have k1 := jc hF 1 rfl; have hs : F < w.heap.size := jl hF; have hT : ∀ z : Int, yFl f ts nm = z ↔ (if (if ts = 0 then kd = 1 ∧ fn = nm else if ts = 1 then kd = 1 else if ts = 2 then kd = 2 else True) then (2 : Int) else 0) = z := fun z => by unfold yFl; rw [hkd, hfn]
 have hb : ∀ o, Below w.heap.size w (w.alloc o) := fun o => (jf _ _).alloc (jr _) _
 have HB := jh hb; obtain ⟨z, hz⟩ := je (yFl f ts nm); have hz2 := (hT z).1 hz; rw [hz]; have HZ := jh hz2; clear hF hkd hfn hT hz hz2 hb; by_cases h0 : ts = 0
 ·subst h0; by_cases hk : kd = 1
  ·subst hk; by_cases hn : fn = nm
   ·subst hn; have HE := jh (show (2 : Int) = z by rw [← HZ.out]; simp []); clear HZ; go_enter Tryz.func105, Tryz.ntmps105; go_wp2_with fail; go_quiet (fail); go_wp2_with fail; go_ret; exact ⟨congrArg (fun x => Ending.returned (.int .i64 x)) HE.out, by first | exact HB.out _ | exact (HB.out _).drew | exact (HB.out _).trans (((yAJ.refl _).drewN _).below _)⟩
   ·have q1 : ¬ fn.toList = nm.toList := fun e => hn (toList_inj e)
    have q2 : (fn.toList == nm.toList) = false := jn.2 q1; have HE := jh (show (0 : Int) = z by rw [← HZ.out]; simp [hn]); clear HZ hn; go_enter Tryz.func105, Tryz.ntmps105; go_wp2_with fail; go_quiet (fail); go_wp2_with fail; go_ret; exact ⟨congrArg (fun x => Ending.returned (.int .i64 x)) HE.out, by first | exact HB.out _ | exact (HB.out _).drew | exact (HB.out _).trans (((yAJ.refl _).drewN _).below _)⟩
  ·have q1 : (kd == 1) = false := jn.2 hk; have HE := jh (show (0 : Int) = z by rw [← HZ.out]; simp [hk]); clear HZ hk; go_enter Tryz.func105, Tryz.ntmps105; go_wp2_with fail; go_quiet (fail); go_wp2_with fail; go_ret; exact ⟨congrArg (fun x => Ending.returned (.int .i64 x)) HE.out, by first | exact HB.out _ | exact (HB.out _).drew | exact (HB.out _).trans (((yAJ.refl _).drewN _).below _)⟩
 ·have q0 : (ts == 0) = false := jn.2 h0; by_cases h1 : ts = 1
  ·subst h1; by_cases hk : kd = 1
   ·subst hk; have HE := jh (show (2 : Int) = z by rw [← HZ.out]; simp []); clear HZ h0; go_enter Tryz.func105, Tryz.ntmps105; go_wp2_with fail; go_ret; exact ⟨congrArg (fun x => Ending.returned (.int .i64 x)) HE.out, by first | exact HB.out _ | exact (HB.out _).drew | exact (HB.out _).trans (((yAJ.refl _).drewN _).below _)⟩
   ·have q1 : (kd == 1) = false := jn.2 hk; have HE := jh (show (0 : Int) = z by rw [← HZ.out]; simp [hk]); clear HZ hk h0; go_enter Tryz.func105, Tryz.ntmps105; go_wp2_with fail; go_ret; exact ⟨congrArg (fun x => Ending.returned (.int .i64 x)) HE.out, by first | exact HB.out _ | exact (HB.out _).drew | exact (HB.out _).trans (((yAJ.refl _).drewN _).below _)⟩
  ·have q1 : (ts == 1) = false := jn.2 h1; by_cases h2 : ts = 2
   ·subst h2; by_cases hk : kd = 2
    ·subst hk; have HE := jh (show (2 : Int) = z by rw [← HZ.out]; simp []); clear HZ h0 h1; go_enter Tryz.func105, Tryz.ntmps105; go_wp2_with fail; go_ret; exact ⟨congrArg (fun x => Ending.returned (.int .i64 x)) HE.out, by first | exact HB.out _ | exact (HB.out _).drew | exact (HB.out _).trans (((yAJ.refl _).drewN _).below _)⟩
    ·have q2 : (kd == 2) = false := jn.2 hk; have HE := jh (show (0 : Int) = z by rw [← HZ.out]; simp [hk]); clear HZ hk h0 h1; go_enter Tryz.func105, Tryz.ntmps105; go_wp2_with fail; go_ret; exact ⟨congrArg (fun x => Ending.returned (.int .i64 x)) HE.out, by first | exact HB.out _ | exact (HB.out _).drew | exact (HB.out _).trans (((yAJ.refl _).drewN _).below _)⟩
   ·have q2 : (ts == 2) = false := jn.2 h2; have HE := jh (show (2 : Int) = z by rw [← HZ.out]; simp [h0, h1, h2]); clear HZ h0 h1 h2; go_enter Tryz.func105, Tryz.ntmps105; go_wp2_with fail; go_ret; exact ⟨congrArg (fun x => Ending.returned (.int .i64 x)) HE.out, by first | exact HB.out _ | exact (HB.out _).drew | exact (HB.out _).trans (((yAJ.refl _).drewN _).below _)⟩
def yKT (f : FrS) (p : Nat) (attr : ByteArray) (cmp : Int) : Int :=
 if attr.toList ≠ [] then f.attrs.getD p 0 else if cmp = 0 then 2 else match f.hunts.getD p none with | some s => tB s.c s.N s.T s.l s.whole | none => 0
theorem yAi {α : Type} {l : List α} {i : Nat} (h : i < l.length) (d : α) : l[i]? = some (l.getD i d) := by rw [jg, jk h]; rfl
theorem yIZ (f : FrS) (tg : Nat → Nat × Nat) (j F nr np p : Nat) (op : Int) (va : Value) (first count : Int) (attr : ByteArray) (cmp : Int) (txt : ByteArray) (num : Int) (w : World) (h : FrM w tg j F nr np f) (hp : p < np) (hva : ∃ a n c, va = .slice a n c) :
  Calls Tryz.prog 104 #[.pointer (some ⟨F, 0, none⟩), .int .i64 p, .agg #[.int .i64 op, va, .int .i64 first, .int .i64 count, .string attr, .int .i64 cmp, .string txt, .int .i64 num]] w fun e w' => e = .returned (.int .i64 (yKT f p attr cmp)) ∧ Below w.heap.size w w' := by
 obtain ⟨a, n, c, rfl⟩ := hva; obtain ⟨cB, dB, aB, hB, hpp, h⟩ := h; obtain ⟨W1, hW1⟩ := je (w.alloc (.cells #[.int .i64 op, .slice a n c, .int .i64 first, .int .i64 count, .string attr, .int .i64 cmp, .string txt, .int .i64 num] 59)); have hX : W1.heap[w.heap.size]? = some (.cells #[.int .i64 op, .slice a n c, .int .i64 first, .int .i64 count, .string attr, .int .i64 cmp, .string txt, .int .i64 num] 59) := by rw [← hW1]; exact jw _ _
 have hb1 : Below w.heap.size w W1 := by rw [← hW1]; exact (jf _ _).alloc (jr _) _
 have h := h.below hb1; have x4 := jc hX 4 rfl; have x5 := jc hX 5 rfl; have k4 := jc h.hF 4 rfl; have k5 := jc h.hF 5 rfl; have ka : W1.cell? ⟨aB, p, none⟩ = some (.int .i64 (f.attrs.getD p 0)) := yAy h.ha (yAi (by rw [h.la]; exact hp) 0); have kh : W1.cell? ⟨hB, p, none⟩ = some (yNt (f.hunts.getD p none) (hpp p).1) := yEX h.hh (yAi (by rw [h.lh]; exact hp) none); have hu := h.hu p; rw [yAi (by rw [h.lh]; exact hp) none] at hu; have hp' : (p : Int) < np := by omega
 have HB := jh hb1; have HW1 := jh hW1; obtain ⟨z, hz⟩ := je (yKT f p attr cmp); rw [hz]; unfold yKT at hz; obtain ⟨av, hav⟩ := je (f.attrs.getD p 0); obtain ⟨hv, hhv⟩ := je (f.hunts.getD p none); rw [hav] at ka hz; rw [hhv] at kh hz hu; clear hX hb1 hW1 h hav hhv; by_cases he : attr.toList = []
 ·have he2 : attr.toList.isEmpty = true := by rw [he]; rfl
  rw [if_neg (by simpa using he)] at hz; by_cases hc : cmp = 0
  ·subst hc; rw [if_pos rfl] at hz; have HZ := jh hz; clear hz hu; go_enter Tryz.func104, Tryz.ntmps104; go_upto_region 1 with fail; rw [HW1.out]; go_wp2_with fail; go_ret; exact ⟨congrArg (fun x => Ending.returned (.int .i64 x)) HZ.out, HB.out⟩
  ·rw [if_neg hc] at hz; have hc' : (cmp == 0) = false := jn.2 hc; have HZ := jh hz; clear hz hc; cases hv with
   | none =>
    have kh : W1.cell? ⟨hB, p, none⟩ = some (.pointer none) := kh; have HN := jh (yQg); clear hu; go_enter Tryz.func104, Tryz.ntmps104; go_upto_region 1 with fail; rw [HW1.out]; go_wp2_with fail; refine (HN.out _).mono ?_; rintro e w2 ⟨rfl, rfl⟩; go_wp2_with fail; go_ret; exact ⟨congrArg (fun x => Ending.returned (.int .i64 x)) HZ.out, HB.out⟩
   | some s =>
    have kh : W1.cell? ⟨hB, p, none⟩ = some (.pointer (some ⟨(hpp p).1, 0, none⟩)) := kh; obtain ⟨hst, hok, _⟩ := hu s rfl; have HT := jh (hst.truth hok.1 hok.2.1); clear hu hst hok; go_enter Tryz.func104, Tryz.ntmps104; go_upto_region 1 with fail; rw [HW1.out]; go_wp2_with fail; refine HT.out.mono ?_; rintro e w2 ⟨rfl, m, rfl⟩; go_wp2_with fail; go_ret; exact ⟨congrArg (fun x => Ending.returned (.int .i64 x)) HZ.out, HB.out.trans (((yAJ.refl _).drewN m).below _)⟩
 ·have he2 : attr.toList.isEmpty = false := by simpa using he
  rw [if_pos (by simpa using he)] at hz; have HZ := jh hz; clear hz hu; go_enter Tryz.func104, Tryz.ntmps104; go_upto_region 1 with fail; rw [HW1.out]; go_wp2_with fail; go_ret; exact ⟨congrArg (fun x => Ending.returned (.int .i64 x)) HZ.out, HB.out⟩
end Go.Proofs.YtkhejkfjhddobaaGreatDoor
