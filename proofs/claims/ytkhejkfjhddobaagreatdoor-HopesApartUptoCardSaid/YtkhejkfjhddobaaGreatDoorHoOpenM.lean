/- (*Hopes).open: its state in memory. -/
import Derived.Test.YtkhejkfjhddobaaGreatDoorHoAlongM
import Derived.Deep.RegionHeld3
import Derived.Deep.DrawnRows
set_option maxRecDepth 100000
set_option maxHeartbeats 32000000
namespace Gim
open Go Go.RowKit
def yCZ {α : Type} (n : Nat) (g : Nat → α) (z : α) (i : Nat) : List α := (List.range n).map fun j => if j < i then g j else z
theorem yCn {α : Type} (n : Nat) (g : Nat → α) (z : α) (i : Nat) : (yCZ n g z i).length = n := by simp [yCZ]
theorem yHc {α : Type} (n : Nat) (g : Nat → α) (z : α) : yCZ n g z 0 = List.replicate n z := by
 refine List.ext_getElem? fun i => ?_
 by_cases h : i < n <;> simp [yCZ, h]
theorem yFX {α : Type} (n : Nat) (g : Nat → α) (z : α) : yCZ n g z n = (List.range n).map g := by
 refine List.ext_getElem? fun i => ?_
 by_cases h : i < n <;> simp [yCZ, h]
theorem yMl {α : Type} (n : Nat) (g : Nat → α) (z : α) {i : Nat} (x : α) (hx : x = g i) : (yCZ n g z i).set i x = yCZ n g z (i + 1) := by
 subst hx; refine List.ext_getElem? fun j => ?_
 by_cases hj : i = j
 ·subst hj; by_cases h : i < n
  ·rw [List.getElem?_set_self (by rw [yCn]; exact h)]; simp [yCZ, h]
  ·rw [List.getElem?_eq_none (by rw [List.length_set, yCn]; omega), List.getElem?_eq_none (by rw [yCn]; omega)]
 ·rw [List.getElem?_set_ne hj]; by_cases h : j < n
  ·have e : (j < i + 1) ↔ j < i := by omega
   simp [yCZ, h, e]
  ·rw [List.getElem?_eq_none (by rw [yCn]; omega), List.getElem?_eq_none (by rw [yCn]; omega)]
theorem yEZ {α : Type} (n : Nat) (g : Nat → α) (z : α) {i : Nat} (hx : g i = z) : yCZ n g z i = yCZ n g z (i + 1) := by
 refine List.ext_getElem? fun j => ?_
 by_cases h : j < n
 ·by_cases hj : i = j
  ·subst hj; simp [yCZ, h, hx]
  ·have e : (j < i + 1) ↔ j < i := by omega
   simp [yCZ, h, e]
 ·rw [List.getElem?_eq_none (by rw [yCn]; omega), List.getElem?_eq_none (by rw [yCn]; omega)]
theorem ySn {α : Type} (n : Nat) (g : Nat → α) (z : α) {i : Nat} (hi : i < n) : (yCZ n g z i)[i]? = some z := by simp [yCZ, hi]
structure yAO (W : World) (ats : List (ByteArray × ByteArray)) (a : Option Addr) (n cap : Nat) : Prop where
 len : ats.length = n
 le : n ≤ cap
 cap_le : cap ≤ maxLen
 fit : ∀ j, j < n → ∃ b o, a = some ⟨b, o, none⟩ ∧ b < W.heap.size ∧ ∀ (i : Nat) (x : ByteArray × ByteArray), ats[i]? = some x → W.cell? ⟨b, o + i * 2, none⟩ = some (.string x.1) ∧ W.cell? ⟨b, o + i * 2 + 1, none⟩ = some (.string x.2)
theorem yAO.below {w w' : World} {ats : List (ByteArray × ByteArray)} {a : Option Addr} {n cap : Nat} (h : yAO w ats a n cap) (hb : Below w.heap.size w w') : yAO w' ats a n cap :=
 ⟨h.len, h.le, h.cap_le, fun j hj => by obtain ⟨b, o, e, h1, h2⟩ := h.fit j hj; exact ⟨b, o, e, jt h1 hb.size, fun i x hx => ⟨(hb.cell (p := ⟨b, _, none⟩) h1).trans (h2 i x hx).1, (hb.cell (p := ⟨b, _, none⟩) h1).trans (h2 i x hx).2⟩⟩⟩
theorem yAO.nil (w : World) : yAO w [] none 0 0 := ⟨rfl, jr _, jz _, fun _ h => absurd h (Nat.not_lt_zero _)⟩
end Gim
namespace Go.Proofs.YtkhejkfjhddobaaGreatDoor
open Go.RowKit Gim
def yII (p : yAG) (ats : List (ByteArray × ByteArray)) : Int := ats.foldl (fun acc a => if a.1 = p.attr then yDD p a.2 else acc) 0
def yFi (nd : yAc) (ats : List (ByteArray × ByteArray)) (i : Nat) : Int := if (nd.preds.getD i zp).op = 3 ∧ (nd.preds.getD i zp).attr.toList ≠ [] then yII (nd.preds.getD i zp) ats else 0
def yDg (nd : yAc) (i : Nat) : Option HuS := if (nd.preds.getD i zp).op = 3 ∧ (nd.preds.getD i zp).attr.toList = [] ∧ (nd.preds.getD i zp).cmp ≠ 0 then some ⟨(nd.preds.getD i zp).cmp, yCE (nd.preds.getD i zp).num, yCl (nd.preds.getD i zp).cmp (nd.preds.getD i zp).txt, [], false⟩ else none
def yA9 (nd : yAc) (kind : Int) (name : ByteArray) (ats : List (ByteArray × ByteArray)) (i : Nat) : FrS :=
 ⟨kind, name, List.replicate nd.rows.length false, List.replicate nd.rows.length false, yCZ nd.preds.length (yFi nd ats) 0 i, yCZ nd.preds.length (yDg nd) none i⟩
def yAr (nd : yAc) (kind : Int) (name : ByteArray) (ats : List (ByteArray × ByteArray)) : FrS := yA9 nd kind name ats nd.preds.length
def yRC (w : World) (nr np : Nat) (f : FrS) (e : Ending) (w' : World) : Prop := ∃ F tg, e = .returned (.pointer (some ⟨F, 0, none⟩)) ∧ FrM w' tg 0 F nr np f ∧ (∀ b, b < w.heap.size → (tg b).1 ≠ 0) ∧ Below w.heap.size w w'
section
variable {W : World} {tg : Nat → Nat × Nat} {j F cB dB aB hB : Nat} {hp : Nat → Nat × Value × Value} {nr np : Nat} {f : FrS}
theorem FrI.addH (h : FrI W tg j F cB dB aB hB hp nr np f) {W' : World} (hb : Below W.heap.size W W') {s : HuS} {X : Nat} {tv bv : Value} (hst : St W' (X + 1) X s.c s.N s.T tv bv s.l s.whole) (hX : W.heap.size ≤ X) (hok : ySE s) (i : Nat) :
  FrI (W'.setCell ⟨hB, i, none⟩ (.pointer (some ⟨X, 0, none⟩))) (fun b => if b < W.heap.size then tg b else if b = X then (j, 5 + 2 * i) else (j, 6 + 2 * i)) j F cB dB aB hB (fun k => if k = i then (X, tv, bv) else hp k) nr np { f with hunts := f.hunts.set i (some s) } := by
 have lt : ∀ {b : Nat} {o : Obj}, W.heap[b]? = some o → b < W.heap.size := fun e => (jl e)
 have hk : ∀ b k, b < W.heap.size → tg b = (j, k) → k ≠ 4 → (W'.setCell ⟨hB, i, none⟩ (.pointer (some ⟨X, 0, none⟩))).heap[b]? = W.heap[b]? := fun b k hl e hne => (js W' ⟨hB, i, none⟩ _ b (by rintro rfl; rw [h.th] at e; injection e with _ e; exact hne e.symm)).trans (hb.block b hl)
 have ht : ∀ b, b < W.heap.size → (fun b => if b < W.heap.size then tg b else if b = X then (j, 5 + 2 * i) else (j, 6 + 2 * i)) b = tg b := fun b hl => if_pos hl
 have hl := St.lt hst; have hBl := lt h.hh; refine ⟨(hk F 0 (lt h.hF) h.tF (by omega)).trans h.hF, (hk cB 1 (lt h.hc) h.tc (by omega)).trans h.hc, (hk dB 2 (lt h.hd) h.td (by omega)).trans h.hd, (hk aB 3 (lt h.ha) h.ta (by omega)).trans h.ha, ?_, h.lc, h.ld, h.la, by simp [h.lh], fun k s' hs => ?_, (ht _ (lt h.hF)).trans h.tF, (ht _ (lt h.hc)).trans h.tc, (ht _ (lt h.hd)).trans h.td, (ht _ (lt h.ha)).trans h.ta, (ht _ hBl).trans h.th⟩
 ·exact yRW ((hb.block hB hBl).trans h.hh) s (X, tv, bv)
 ·by_cases hki : i = k
  ·subst hki; have hs : (f.hunts.set i (some s))[i]? = some (some s') := hs; have hil : i < f.hunts.length := by have := (ji.1 hs).1; simpa using this
   rw [List.getElem?_set_self hil] at hs; injection hs with hs; injection hs with hs; subst hs; simp only [if_true]; have hkX : ∀ b, W.heap.size ≤ b → (W'.setCell ⟨hB, i, none⟩ (.pointer (some ⟨X, 0, none⟩))).heap[b]? = W'.heap[b]? := fun b hb2 => js W' ⟨hB, i, none⟩ _ b (by show b ≠ hB; omega)
   refine ⟨hst.keep (hkX X hX) (fun g hg => hkX g (by have := hl.2.1 g hg; omega)) (fun g hg => hkX g (by have := hl.2.2 g hg; omega)), hok, ?_, fun g hg => ?_, fun g hg => ?_⟩
   ·rw [if_neg (by omega)]
   ·have := hl.2.1 g hg; rw [if_neg (by omega), if_neg (by omega)]
   ·have := hl.2.2 g hg; rw [if_neg (by omega), if_neg (by omega)]
  ·have hs : (f.hunts.set i (some s))[k]? = some (some s') := hs; rw [List.getElem?_set_ne hki] at hs; obtain ⟨h1, h0, h2, h3, h4⟩ := h.hu k s' hs; have hl1 := St.lt h1; rw [if_neg (Ne.symm hki)]; refine ⟨h1.keep (hk _ _ hl1.1 h2 (by omega)) (fun g hg => hk g _ (hl1.2.1 g hg).2 (h3 g hg) (by omega)) (fun g hg => hk g _ (hl1.2.2 g hg).2 (h4 g hg) (by omega)), h0, (ht _ hl1.1).trans h2, fun g hg => (ht _ (hl1.2.1 g hg).2).trans (h3 g hg), fun g hg => (ht _ (hl1.2.2 g hg).2).trans (h4 g hg)⟩
end
structure Mk0 (w wx : World) (kind : Int) (name : ByteArray) (nr F cB dB : Nat) : Prop where
 bel : Below w.heap.size w wx
 hF : wx.heap[F]? = some (.cells #[.int .i64 kind, .string name, .slice (some ⟨cB, 0, none⟩) nr nr, .slice (some ⟨dB, 0, none⟩) nr nr, .slice none 0 0, .slice none 0 0] 117)
 hc : wx.heap[cB]? = some (.cells (bl (List.replicate nr false)) 4)
 hd : wx.heap[dB]? = some (.cells (bl (List.replicate nr false)) 4)
 ne : F ≠ cB ∧ F ≠ dB ∧ cB ≠ dB
 lo : w.heap.size ≤ F ∧ w.heap.size ≤ cB ∧ w.heap.size ≤ dB
def tgO (n F cB dB aB b : Nat) : Nat × Nat := if b < n then (1, 0) else if b = F then (0, 0) else if b = cB then (0, 1) else if b = dB then (0, 2) else if b = aB then (0, 3) else (0, 4)
theorem FrI.start (nd : yAc) (kind : Int) (name : ByteArray) (ats : List (ByteArray × ByteArray)) {W : World} {n F cB dB aB hB nr np : Nat} (hp : Nat → Nat × Value × Value) (hP : nd.preds.length = np) (hR : nd.rows.length = nr)
  (hF : W.heap[F]? = some (.cells #[.int .i64 kind, .string name, .slice (some ⟨cB, 0, none⟩) nr nr, .slice (some ⟨dB, 0, none⟩) nr nr, .slice (some ⟨aB, 0, none⟩) np np, .slice (some ⟨hB, 0, none⟩) np np] 117))
  (hc : W.heap[cB]? = some (.cells (bl (List.replicate nr false)) 4)) (hd : W.heap[dB]? = some (.cells (bl (List.replicate nr false)) 4))
  (ha : W.heap[aB]? = some (.cells (madeCells #[.int .i64 0] np) 67)) (hh : W.heap[hB]? = some (.cells (madeCells #[.pointer none] np) 118))
  (l1 : n ≤ F) (l2 : n ≤ cB) (l3 : n ≤ dB) (l4 : n ≤ aB) (l5 : n ≤ hB) (e1 : F ≠ cB) (e2 : F ≠ dB) (e3 : cB ≠ dB) (e4 : aB ≠ F ∧ aB ≠ cB ∧ aB ≠ dB) (e5 : hB ≠ F ∧ hB ≠ cB ∧ hB ≠ dB ∧ hB ≠ aB) :
  FrI W (tgO n F cB dB aB) 0 F cB dB aB hB hp nr np (yA9 nd kind name ats 0) := by
 subst hP; subst hR; refine ⟨hF, hc, hd, ?_, ?_, by simp [yA9], by simp [yA9], yCn _ _ _ _, yCn _ _ _ _, fun i s hs => ?_, ?_, ?_, ?_, ?_, ?_⟩
 ·rw [ha, yDr]; show _ = some (Obj.cells (il (yCZ _ _ 0 0)) _); rw [yHc]
 ·rw [hh, yQh _ hp]; show _ = some (Obj.cells (yCU (yCZ _ _ none 0) hp) _); rw [yHc]
 ·have hs : (yCZ nd.preds.length (yDg nd) none 0)[i]? = some (some s) := hs; rw [yHc] at hs; have := List.mem_of_getElem? hs; have := List.eq_of_mem_replicate this; exact absurd this (by simp)
 ·simp [tgO, Nat.not_lt.2 l1]
 ·simp [tgO, Nat.not_lt.2 l2, Ne.symm e1]
 ·simp [tgO, Nat.not_lt.2 l3, Ne.symm e2, Ne.symm e3]
 ·simp [tgO, Nat.not_lt.2 l4, e4.1, e4.2.1, e4.2.2]
 ·simp [tgO, Nat.not_lt.2 l5, e5.1, e5.2.1, e5.2.2.1, e5.2.2.2]
theorem ySc {n F cB dB aB b : Nat} (h : b < n) : (tgO n F cB dB aB b).1 ≠ 0 := by simp [tgO, h]
theorem yIP {nd : yAc} {kind : Int} {name : ByteArray} {ats : List (ByteArray × ByteArray)} {i : Nat} (ha : yFi nd ats i = 0) (hh : yDg nd i = none) : yA9 nd kind name ats i = yA9 nd kind name ats (i + 1) := by unfold yA9; rw [yEZ _ _ _ ha, yEZ _ _ _ hh]
theorem yNA {nd : yAc} {kind : Int} {name : ByteArray} {ats : List (ByteArray × ByteArray)} {i : Nat} {x : Int} (hx : x = yFi nd ats i) (hh : yDg nd i = none) : { yA9 nd kind name ats i with attrs := (yA9 nd kind name ats i).attrs.set i x } = yA9 nd kind name ats (i + 1) := by unfold yA9; simp only; rw [yMl _ _ _ _ hx, yEZ _ _ _ hh]
theorem yNF {nd : yAc} {kind : Int} {name : ByteArray} {ats : List (ByteArray × ByteArray)} {i : Nat} {x : Option HuS} (ha : yFi nd ats i = 0) (hx : x = yDg nd i) : { yA9 nd kind name ats i with hunts := (yA9 nd kind name ats i).hunts.set i x } = yA9 nd kind name ats (i + 1) := by unfold yA9; simp only; rw [yEZ _ _ _ ha, yMl _ _ _ _ hx]
theorem yP4 (p : yAG) {ats : List (ByteArray × ByteArray)} {q : Nat} {x : ByteArray × ByteArray} (h : ats[q]? = some x) : yII p (ats.take (q + 1)) = if x.1 = p.attr then yDD p x.2 else yII p (ats.take q) := by unfold yII; rw [List.take_add_one, h, List.foldl_append]; rfl
section
attribute [local go_sem ↓] Go.wp_at_zero Go.wp_at_succ
theorem yFH (nd : yAc) (H : Nat) (kind : Int) (name : ByteArray) (ats : List (ByteArray × ByteArray)) (aa : Option Addr) (an ac : Nat) (w : World) (hN : yHI w H nd) (hok : yB2 nd) (has : yAO w ats aa an ac) (hsz : ∀ x ∈ ats, x.2.size ≤ 1099511627776) :
  Calls Tryz.prog 38 #[.pointer (some ⟨H, 0, none⟩), .int .i64 kind, .string name, .slice aa an ac] w (yRC w nd.rows.length nd.preds.length (yAr nd kind name ats)) := by
 obtain ⟨np, hnp⟩ := je (nd.preds.length); obtain ⟨nr, hnr⟩ := je (nd.rows.length); have hnpl := hok.np; have hnrl := hok.nr; have hmk1 := fun w => run_make_row' (P := Tryz.prog) 114 4 (.bool false) 1 Tryz.underlying114 (by kernel_rfl) rfl .i64 .i64 nr (by omega) (by omega) w
 have hmk2 := fun w => run_make_row' (P := Tryz.prog) 84 67 (.int .i64 0) 8 Tryz.underlying84 (by kernel_rfl) rfl .i64 .i64 np (by omega) (by omega) w
 have hmk3 := fun w => run_make_row' (P := Tryz.prog) 115 118 (.pointer none) 8 Tryz.underlying115 (by kernel_rfl) rfl .i64 .i64 np (by omega) (by omega) w
 obtain ⟨mn, ra, rc, pa, pc, v3, v4, v5, v6, h1, h2, h3, hgp, _⟩ := hN.pred; rw [hnp] at h1 h3 hgp hnpl ⊢; rw [hnr] at h1 h2 hnrl ⊢; have q1 := jc h1 1 rfl; have q2 := jc h1 2 rfl; have hHs : H < w.heap.size := jl h1; have HN := jh hN; have HO := jh hok; have HAS := jh has; have HSZ := jh hsz; have HP := jh hnp; have HR := jh hnr; have HH1 := jh h1; have HGP := jh hgp; have HAN := jh has.len; have hanl := jh (And.intro has.le has.cap_le); clear hok hN has hsz h1 hnp hnr hgp; go_enter Tryz.func38, Tryz.ntmps38; go_upto_region 1 with fail
 go_cut [9] from 14 to 31 (fun v wx => ∃ F cB dB, v = .pointer (some ⟨F, 0, none⟩) ∧ Mk0 w wx kind name nr F cB dB)
 case first =>
  go_region
  all_goals
   go_wp2_with fail; go_meet
  ·obtain ⟨x2, x3, x4, x5, x6⟩ := yKV w (.cells (madeCells #[.bool false] nr) 4) (.cells (madeCells #[.bool false] nr) 4) (.cells #[.int .i64 kind, .string name, .slice (some ⟨w.heap.size, 0, none⟩) nr nr, .slice (some ⟨w.heap.size + 1, 0, none⟩) nr nr, .slice none 0 0, .slice none 0 0] 117); rw [yCL] at x2 x3 x4 x5 x6; exact ⟨w.heap.size + 2, w.heap.size, w.heap.size + 1, rfl, by rw [yCL]; exact x6, by rw [yCL]; exact x4, by rw [yCL]; exact x2, by rw [yCL]; exact x3, by omega, by omega⟩
  ·obtain ⟨x2, x3, x4, x5, x6⟩ := yKV w (.cells (madeCells #[.bool false] nr) 4) (.cells (madeCells #[.bool false] nr) 4) (.cells #[.int .i64 kind, .string name, .slice (some ⟨w.heap.size + 1, 0, none⟩) nr nr, .slice (some ⟨w.heap.size, 0, none⟩) nr nr, .slice none 0 0, .slice none 0 0] 117); rw [yCL] at x2 x3 x4 x5 x6; exact ⟨w.heap.size + 2, w.heap.size + 1, w.heap.size, rfl, by rw [yCL]; exact x6, by rw [yCL]; exact x4, by rw [yCL]; exact x3, by rw [yCL]; exact x2, by omega, by omega⟩
 case rest =>
 obtain ⟨F, cB, dB, rfl, hm⟩ := hcut; have q2 : wc.cell? ⟨H, 2, none⟩ = some (.slice pa np pc) := (hm.bel.cell hHs).trans q2; have k4 := jc hm.hF 4 rfl; have k5 := jc hm.hF 5 rfl; have z4 := yAd hm.hF 4; have z5 := yAd hm.hF 5; have hFs : F < wc.heap.size := jl hm.hF; have hHF : H ≠ F := by have := hm.lo.1; omega
 have hHc : H < wc.heap.size := jt hHs hm.bel.size; have HM := jh hm; clear hm; have HST : Hid (∀ hp, FrI (((((wc.setCell ⟨F, 4, none⟩ (.slice (some ⟨wc.heap.size, 0, none⟩) np np)).setCell ⟨F, 5, none⟩ (.slice (some ⟨wc.heap.size + 1, 0, none⟩) np np))).alloc (.cells (madeCells #[.int .i64 0] np) 67)).alloc (.cells (madeCells #[.pointer none] np) 118)) (tgO w.heap.size F cB dB wc.heap.size) 0 F cB dB wc.heap.size (wc.heap.size + 1) hp nr np (yA9 nd kind name ats 0) ∧ Below w.heap.size w (((((wc.setCell ⟨F, 4, none⟩ (.slice (some ⟨wc.heap.size, 0, none⟩) np np)).setCell ⟨F, 5, none⟩ (.slice (some ⟨wc.heap.size + 1, 0, none⟩) np np))).alloc (.cells (madeCells #[.int .i64 0] np) 67)).alloc (.cells (madeCells #[.pointer none] np) 118))) := jh fun hp => by
  have hm := HM.out; have lc := jl hm.hc; have ld := jl hm.hd; obtain ⟨W1, hW1⟩ := je (((wc.setCell ⟨F, 4, none⟩ (.slice (some ⟨wc.heap.size, 0, none⟩) np np)).setCell ⟨F, 5, none⟩ (.slice (some ⟨wc.heap.size + 1, 0, none⟩) np np))); have hsz1 : W1.heap.size = wc.heap.size := by rw [← hW1]; simp
  have o : ∀ b, b ≠ F → W1.heap[b]? = wc.heap[b]? := fun b hb => by rw [← hW1]; exact (js _ ⟨F, 5, none⟩ _ b hb).trans (js wc ⟨F, 4, none⟩ _ b hb)
  have oF : W1.heap[F]? = some (.cells #[.int .i64 kind, .string name, .slice (some ⟨cB, 0, none⟩) nr nr, .slice (some ⟨dB, 0, none⟩) nr nr, .slice (some ⟨wc.heap.size, 0, none⟩) np np, .slice (some ⟨wc.heap.size + 1, 0, none⟩) np np] 117) := by rw [← hW1, yAu (yAu hm.hF _) _]; rfl
  have hbl : Below w.heap.size w W1 := by rw [← hW1]; exact (hm.bel.setCell (p := ⟨F, 4, none⟩) hm.lo.1 _).setCell (p := ⟨F, 5, none⟩) hm.lo.1 _
  rw [hW1]; obtain ⟨y1, y2, y3, y4⟩ := yDj W1 (.cells (madeCells #[.int .i64 0] np) 67) (.cells (madeCells #[.pointer none] np) 118); rw [hsz1] at y1 y2 y4; refine ⟨FrI.start nd kind name ats hp HP.out HR.out ?_ ?_ ?_ y1 y2 hm.lo.1 hm.lo.2.1 hm.lo.2.2 hm.bel.size (by have := hm.bel.size; omega) hm.ne.1 hm.ne.2.1 hm.ne.2.2 ⟨by omega, by omega, by omega⟩ ⟨by omega, by omega, by omega, by omega⟩, hbl.trans (y4.mono hm.bel.size)⟩
  ·exact (y4.block F hFs).trans oF
  ·exact (y4.block cB lc).trans ((o cB (Ne.symm hm.ne.1)).trans hm.hc)
  ·exact (y4.block dB ld).trans ((o dB (Ne.symm hm.ne.2.1)).trans hm.hd)
 go_wp2_with fail; have hws := HM.out.bel.size; clear hmk1 hmk2 hmk3 q1 q2 k4 k5 z4 z5 HM; go_loopw [58] (fun v wr => ∃ i : Nat, v = .int .i64 i ∧ i ≤ np ∧ ∃ tg hp, FrI wr tg 0 F cB dB wc.heap.size (wc.heap.size + 1) hp nr np (yA9 nd kind name ats i) ∧ (∀ b, b < w.heap.size → (tg b).1 ≠ 0) ∧ Below w.heap.size w wr) (fun i _ => np - (intOf i).toNat)
 case atStart => exact ⟨0, rfl, jz _, _, fun _ => (0, .slice none 0 0, .slice none 0 0), (HST.out _).1, fun b hb => ySc hb, (HST.out fun _ => (0, .slice none 0 0, .slice none 0 0)).2⟩
 case round =>
  clear HST; revert hrel; revert wr; intro wo hrel; obtain ⟨i, rfl, hi, tg, hp, hFI, htg, hbel⟩ := hrel; by_cases hin : i < np
  ·obtain ⟨b, o, pa1, pn1, pc1, hpa, hbs, d0, d1, d2, d3, d4, d5, d6, d7, hrd⟩ := HGP.out i hin; subst hpa; have tr : ∀ k, wo.cell? ⟨b, k, none⟩ = w.cell? ⟨b, k, none⟩ := fun k => hbel.cell (p := ⟨b, k, none⟩) hbs
   replace d0 := (tr _).trans d0
   replace d1 := (tr _).trans d1
   replace d2 := (tr _).trans d2
   replace d3 := (tr _).trans d3
   replace d4 := (tr _).trans d4
   replace d5 := (tr _).trans d5
   replace d6 := (tr _).trans d6
   replace d7 := (tr _).trans d7
   have hop := HO.out.op i (by rw [HP.out]; exact hin); have hcmp := HO.out.cmp i (by rw [HP.out]; exact hin); generalize hpd : nd.preds.getD i zp = pd at d0 d2 d3 d4 d5 d6 d7 hop hcmp; obtain ⟨op, args, first, count, attr, cmp, txt, num⟩ := pd; simp only at d0 d2 d3 d4 d5 d6 d7 hop hcmp; have hAG : yFi nd ats i = if op = 3 ∧ attr.toList ≠ [] then yII ⟨op, args, first, count, attr, cmp, txt, num⟩ ats else 0 := by unfold yFi; rw [hpd]
   have hHG : yDg nd i = if op = 3 ∧ attr.toList = [] ∧ cmp ≠ 0 then some ⟨cmp, yCE num, yCl cmp txt, [], false⟩ else none := by unfold yDg; rw [hpd]
   have hin' : (i : Int) < np := by omega
   have hpp : (i : Int) < pc := by omega
   have hbo : b < wo.heap.size := jt hbs hbel.size; obtain ⟨W5, hW5⟩ := je (wo.alloc (.cells #[.int .i64 op, .slice pa1 pn1 pc1, .int .i64 first, .int .i64 count, .string attr, .int .i64 cmp, .string txt, .int .i64 num] 59)); have hX5 : W5.heap[wo.heap.size]? = some (.cells #[.int .i64 op, .slice pa1 pn1 pc1, .int .i64 first, .int .i64 count, .string attr, .int .i64 cmp, .string txt, .int .i64 num] 59) := by rw [← hW5]; exact jw _ _
   have hb5 : Below wo.heap.size wo W5 := by rw [← hW5]; exact (jf _ _).alloc (jr _) _
   have hF5 := hFI.below hb5; have hbel5 := hbel.trans (hb5.mono hbel.size); have x0 := jc hX5 0 rfl; have x4 := jc hX5 4 rfl; have x5 := jc hX5 5 rfl; have x6 := jc hX5 6 rfl; have x7 := jc hX5 7 rfl; have hx5s : wo.heap.size < W5.heap.size := jl hX5; have HW5 := jh hW5; have HX5 := jh hX5; have HF5 := jh hF5; have HB5 := jh hbel5; have HTG := jh htg; have HAG := jh hAG; have HHG := jh hHG; have HCMP := jh hcmp; have HPD := jh hpd; have hAo : wc.heap.size < wo.heap.size := jl hFI.ha; clear hFI hbel htg hW5 hX5 hb5 hF5 hbel5 hAG hHG hcmp hpd tr hrd hop; by_cases ho3 : op = 3
   ·subst ho3; have hcm := jh (HCMP.out rfl); by_cases hat : attr.toList = []
    ·have qa : (attr.toList == []) = true := by rw [hat]; rfl
     have qb : (attr.toList != []) = false := by rw [hat]; rfl
     have HAT := jh hat; clear hat; by_cases hc0 : cmp = 0
     ·subst hc0; have HE := jh (yIP (kind := kind) (name := name) (by rw [HAG.out, if_neg (fun h => h.2 HAT.out)]) (by rw [HHG.out, if_neg (fun h => h.2.2 rfl)])); go_upto_region 7 with fail; rw [HW5.out]; go_wp2_with fail; go_roundw
      case rel => exact ⟨i + 1, by go_num, by omega, tg, hp, by rw [← HE.out]; exact HF5.out, HTG.out, HB5.out⟩
      case measure => first | (simp [intOf]; done) | (simp [intOf]; omega)
     ·have qc : (cmp != 0) = true := bne_iff_ne.2 hc0; have qd : (cmp == 0) = false := jn.2 hc0; obtain ⟨N, rfl⟩ : ∃ N : Nat, num = N := ⟨num.toNat, by have := hcm.out.2.2.1; omega⟩
      have HNW : Hid (∀ W, Below W5.heap.size W5 W → Calls Tryz.prog 64 #[.int .i64 cmp, .string txt, .int .i64 N] W fun e w' => ∃ X tv bv, e = .returned (.tuple #[.pointer (some ⟨X, 0, none⟩), .int .i64 0]) ∧ W5.heap.size ≤ X ∧ St w' (X + 1) X cmp N (yCl cmp txt) tv bv [] false ∧ Below W5.heap.size W5 w') := jh fun W hb => by refine (yJC W cmp txt N hcm.out.1 hcm.out.2.1 hcm.out.2.2.2).mono ?_; rintro e w' ⟨tv, bv, rfl, hst, hb2⟩; exact ⟨W.heap.size, tv, bv, rfl, hb.size, hst, hb.trans (hb2.mono hb.size)⟩
      have HE := jh (yNF (kind := kind) (name := name) (ats := ats) (x := some ⟨cmp, N, yCl cmp txt, [], false⟩) (by rw [HAG.out, if_neg (fun h => h.2 HAT.out)]) (by rw [HHG.out, if_pos ⟨rfl, HAT.out, hc0⟩]; rfl)); have HOK : Hid (ySE ⟨cmp, N, yCl cmp txt, [], false⟩) := jh ⟨hcm.out.1, hcm.out.2.1, fun h => yJI cmp txt h⟩; have HH5 := jh HF5.out.hh; have hhl : i < (yA9 nd kind name ats i).hunts.length := by rw [HF5.out.lh]; exact hin
      have HHL := jh hhl; have k5 := jc HF5.out.hF 5 rfl; have hF5s : F < W5.heap.size := jl HF5.out.hF; obtain ⟨vh, kh⟩ : ∃ vh, W5.cell? ⟨wc.heap.size + 1, i, none⟩ = some vh := ⟨_, yEX HH5.out (jk hhl)⟩
      have zh := yAd HH5.out i; have hH5s : wc.heap.size + 1 < W5.heap.size := jl HH5.out; clear hc0 hhl; go_upto_region 7 with fail; rw [HW5.out]; go_upto_region 16 with fail; go_region_with (first
       | (go_at_call 64; refine (HNW.out _ (by first | exact jf _ _ | exact (jf _ _).drew)).mono ?_; rintro e w13 ⟨X, tv, bv, rfl, hX, hst, hb13⟩; replace k5 := (hb13.cell (p := ⟨F, 5, none⟩) hF5s).trans k5; replace kh := (hb13.cell (p := ⟨wc.heap.size + 1, i, none⟩) hH5s).trans kh; have zh13 := yAd ((hb13.block _ hH5s).trans HH5.out) i; have HST13 := jh hst; have HB13 := jh hb13; have HX13 := jh hX; clear hst hb13 hX))
      all_goals
       have HFN := jh (HF5.out.addH HB13.out HST13.out HX13.out HOK.out i); rw [HE.out] at HFN; have HBN := jh (Below.setCell (p := ⟨wc.heap.size + 1, i, none⟩) (HB5.out.trans (HB13.out.mono HB5.out.size)) (show w.heap.size ≤ wc.heap.size + 1 by omega) (Value.pointer (some ⟨X, 0, none⟩))); have HTN : Hid (∀ b, b < w.heap.size → ((fun b => if b < W5.heap.size then tg b else if b = X then ((0 : Nat), 5 + 2 * i) else (0, 6 + 2 * i)) b).1 ≠ 0) := jh fun b hb => by show (if b < W5.heap.size then tg b else if b = X then ((0 : Nat), 5 + 2 * i) else (0, 6 + 2 * i)).1 ≠ 0; rw [if_pos (jt hb HB5.out.size)]; exact HTG.out b hb
       clear k5 kh zh13 zh x0 x4 x5 x6 x7; go_wp2_with fail; go_roundw
       case rel => exact ⟨i + 1, by go_num, by omega, _, _, HFN.out, HTN.out, HBN.out⟩
       case measure => first | (simp [intOf]; done) | (simp [intOf]; omega)
    ·have qa : (attr.toList == []) = false := jn.2 hat; have qb : (attr.toList != []) = true := bne_iff_ne.2 hat; have HAT := jh hat; clear hat; have HHN := jh (show yDg nd i = none by rw [HHG.out, if_neg (fun h => HAT.out h.2.1)]); obtain ⟨pd, hpd⟩ := je ((⟨3, args, first, count, attr, cmp, txt, num⟩ : yAG) : yAG); have HPE := jh hpd; have HAE := jh (show yII pd ats = yFi nd ats i by rw [HAG.out, if_pos ⟨rfl, HAT.out⟩, hpd]); have HOK : Hid (ySV pd) := jh (by rw [← hpd]; exact hcm.out); have HS0 : Hid ({ yA9 nd kind name ats i with attrs := (yA9 nd kind name ats i).attrs.set i (yII pd (ats.take 0)) } = yA9 nd kind name ats i) := jh (by
      have hz : (yA9 nd kind name ats i).attrs[i]? = some 0 := ySn _ _ _ (by rw [HP.out]; exact hin); obtain ⟨hi2, e2⟩ := ji.1 hz; have e3 : (yA9 nd kind name ats i).attrs.set i (yII pd (ats.take 0)) = (yA9 nd kind name ats i).attrs := by show (yA9 nd kind name ats i).attrs.set i 0 = _; rw [← e2]; exact List.set_getElem_self _
      rw [e3])
     clear hpd; go_upto_region 7 with fail; rw [HW5.out]; go_upto_region 9 with fail; go_wp2_with fail; clear x0 x4 x5 x6 x7 d0 d1 d2 d3 d4 d5 d6 d7; go_loopw [73] (fun v wr => ∃ q : Nat, v = .int .i64 q ∧ q ≤ an ∧ FrI wr tg 0 F cB dB wc.heap.size (wc.heap.size + 1) hp nr np { yA9 nd kind name ats i with attrs := (yA9 nd kind name ats i).attrs.set i (yII pd (ats.take q)) } ∧ wr.heap[wo.heap.size]? = W5.heap[wo.heap.size]? ∧ Below w.heap.size w wr) (fun v _ => an - (intOf v).toNat)
     case atStart => exact ⟨0, rfl, jz _, by rw [HS0.out]; exact HF5.out, rfl, HB5.out⟩
     case round =>
      clear HS0 HF5 HB5; revert hrel; revert wr; intro w8 hrel; obtain ⟨q, rfl, hq, hF8, hx8, hb8⟩ := hrel; by_cases hqn : q < an
      ·obtain ⟨x, hx⟩ : ∃ x, ats[q]? = some x := ⟨ats[q]'(by rw [HAN.out]; exact hqn), jk (by rw [HAN.out]; exact hqn)⟩
       obtain ⟨b2, o2, hae, hb2s, hcel⟩ := HAS.out.fit q hqn; subst hae; obtain ⟨e0, e1⟩ := hcel q x hx
       replace e0 := (hb8.cell (p := ⟨b2, _, none⟩) hb2s).trans e0
       replace e1 := (hb8.cell (p := ⟨b2, _, none⟩) hb2s).trans e1
       have hxs := HSZ.out x (List.mem_of_getElem? hx); have hsn := yP4 pd hx; rw [show pd.attr = attr by rw [← HPE.out]] at hsn; obtain ⟨xn, xv⟩ := x; simp only at e0 e1 hxs hsn; rw [HX5.out] at hx8; have hb2o : b2 < w8.heap.size := jt hb2s hb8.size; have hqn' : (q : Int) < an := by omega
       have hqc : (q : Int) < ac := by have := hanl.out.1; omega
       have hqb : (q : Int) < 9223372036854775807 := by have := hanl.out.2; unfold maxLen at this; omega
       obtain ⟨W9, hW9⟩ := je (w8.alloc (.cells #[.string xn, .string xv] 61)); have hX9 : W9.heap[w8.heap.size]? = some (.cells #[.string xn, .string xv] 61) := by rw [← hW9]; exact jw _ _
       have hb9 : Below w8.heap.size w8 W9 := by rw [← hW9]; exact (jf _ _).alloc (jr _) _
       have y0 := jc hX9 0 rfl; have y1 := jc hX9 1 rfl; have h8s : w8.heap.size < W9.heap.size := jl hX9; have h9x := (hb9.block wo.heap.size (jl hx8)).trans hx8; have x0 := jc h9x 0 rfl; have x1 := jc h9x 1 rfl; have x2 := jc h9x 2 rfl; have x3 := jc h9x 3 rfl; have x4 := jc h9x 4 rfl; have x5 := jc h9x 5 rfl; have x6 := jc h9x 6 rfl; have x7 := jc h9x 7 rfl; have h9s : wo.heap.size < W9.heap.size := jl h9x; have hF9 := hF8.below hb9; have hb9w := hb8.trans (hb9.mono hb8.size); have k4 := jc hF9.hF 4 rfl; have hF9s : F < W9.heap.size := jl hF9.hF; have hA9 := hF9.ha; have hal : i < ((yA9 nd kind name ats i).attrs.set i (yII pd (ats.take q))).length := by rw [hF9.la]; exact hin
       obtain ⟨va, ka⟩ : ∃ va, W9.cell? ⟨wc.heap.size, i, none⟩ = some va := ⟨_, yAy hA9 (jk hal)⟩
       have za := yAd hA9 i; have hA9s : wc.heap.size < W9.heap.size := jl hA9; have HA9 := jh hA9; have HAL := jh hal; have HW9 := jh hW9; have HF9 := jh hF9; have HB9 := jh hb9w; have H9X := jh h9x; clear hF8 hx8 hb8 hx hcel hW9 hX9 hb9 hF9 hb9w h9x hA9 hal; by_cases hnm : xn = attr
       ·have qn : (xn.toList == attr.toList) = true := by rw [hnm]; exact beq_self_eq_true _
        rw [if_pos hnm] at hsn; have HSN := jh hsn; have HWC : Hid (∀ W, Calls Tryz.prog 63 #[.agg #[.int .i64 3, .slice pa1 pn1 pc1, .int .i64 first, .int .i64 count, .string attr, .int .i64 cmp, .string txt, .int .i64 num], .string xv] W fun e w' => e = .returned (.int .i64 (yDD pd xv)) ∧ Below W.heap.size W w') := jh fun W => by have := yMk 3 (.slice pa1 pn1 pc1) first count attr cmp txt num args xv W (by rw [HPE.out]; exact HOK.out) hxs ⟨_, _, _, rfl⟩; rw [HPE.out] at this; exact this
        obtain ⟨z, hz⟩ := je (yDD pd xv); rw [hz] at HWC HSN; clear hnm hsn hz hxs; go_upto_region 12 with fail
        rw [HW9.out]; go_upto_region 13 with fail; go_region_with (first
         | (go_at_call 63; refine (HWC.out _).mono ?_; rintro e w13 ⟨rfl, b13⟩; have hb13 := (((jf W9.heap.size W9).drew).trans b13); replace k4 := (hb13.cell (p := ⟨F, 4, none⟩) hF9s).trans k4; have hA13 := (hb13.block _ hA9s).trans HA9.out; replace ka := (hb13.cell (p := ⟨wc.heap.size, i, none⟩) hA9s).trans ka; have za13 := yAd hA13 i; have HB13 := jh hb13; clear b13 hb13 hA13))
        all_goals
         have HFN : Hid (FrI (w13.setCell ⟨wc.heap.size, i, none⟩ (.int .i64 z)) tg 0 F cB dB wc.heap.size (wc.heap.size + 1) hp nr np { yA9 nd kind name ats i with attrs := (yA9 nd kind name ats i).attrs.set i z }) := jh (by have h := (HF9.out.below HB13.out).setA i z; simpa only [List.set_set] using h); have HXN := jh ((js w13 ⟨wc.heap.size, i, none⟩ (.int .i64 z) wo.heap.size (by show wo.heap.size ≠ wc.heap.size; omega)).trans ((HB13.out.block wo.heap.size h9s).trans H9X.out)); have HBN := jh (Below.setCell (p := ⟨wc.heap.size, i, none⟩) (HB9.out.trans (HB13.out.mono HB9.out.size)) (show w.heap.size ≤ wc.heap.size from hws) (Value.int .i64 z)); clear k4 ka za za13 x0 x1 x2 x3 x4 x5 x6 x7 y0 y1 e0 e1; go_wp2_with fail; go_roundw
         case rel => exact ⟨q + 1, by go_num, by omega, by rw [HSN.out]; exact HFN.out, by rw [HX5.out]; exact HXN.out, HBN.out⟩
         case measure => first | (simp [intOf]; done) | (simp [intOf]; omega)
       ·have qn : (xn.toList == attr.toList) = false := jn.2 (fun e => hnm (toList_inj e)); rw [if_neg hnm] at hsn; have HSN := jh hsn; clear hnm hsn hxs; go_upto_region 12 with fail; rw [HW9.out]; go_wp2_with fail; go_roundw
        case rel => exact ⟨q + 1, by go_num, by omega, by rw [HSN.out]; exact HF9.out, by rw [HX5.out]; exact H9X.out, HB9.out⟩
        case measure => first | (simp [intOf]; done) | (simp [intOf]; omega)
      ·obtain rfl : q = an := by omega
       rw [jm (by rw [HAN.out]; exact jr _), yNA HAE.out HHN.out] at hF8; have HF8 := jh hF8; have HB8 := jh hb8; clear hF8 hb8 hx8; go_wp2_with fail; go_roundw
       case rel => exact ⟨i + 1, by go_num, by omega, tg, hp, HF8.out, HTG.out, HB8.out⟩
       case measure => first | (simp [intOf]; done) | (simp [intOf]; omega)
   ·have qa : (op == 3) = false := jn.2 ho3; have qb : (op != 3) = true := bne_iff_ne.2 ho3; have HE := jh (yIP (kind := kind) (name := name) (by rw [HAG.out, if_neg (fun h => ho3 h.1)]) (by rw [HHG.out, if_neg (fun h => ho3 h.1)])); clear ho3; go_upto_region 7 with fail; rw [HW5.out]; go_wp2_with fail; go_roundw
    case rel => exact ⟨i + 1, by go_num, by omega, tg, hp, by rw [← HE.out]; exact HF5.out, HTG.out, HB5.out⟩
    case measure => first | (simp [intOf]; done) | (simp [intOf]; omega)
  ·obtain rfl : i = np := by omega
   have HFIN := jh (show yRC w nr i (yAr nd kind name ats) (.returned (.pointer (some ⟨F, 0, none⟩))) wo from ⟨F, tg, rfl, ⟨_, _, _, _, _, by rw [show yAr nd kind name ats = yA9 nd kind name ats i by unfold yAr; rw [HP.out]]; exact hFI⟩, htg, hbel⟩); clear hFI htg hbel; go_wp2_with fail; go_ret; exact HFIN.out
end
end Go.Proofs.YtkhejkfjhddobaaGreatDoor
