/- gimletlaw14.KleeneTurns answers true. Printed by wip/mkturns.py. -/
import Derived.Test.YtmdanfeilgeoaaaKTurnA
import Derived.Test.YtmdanfeilgeoaaaKTurnB
import Derived.RegionTactic
import Derived.BigRegion
import Derived.Deep.CutRange
import Derived.Deep.CutBlock
namespace Gim
open Go Go.RowKit
theorem cells13_of {t : TypeId} {w : World} {R : Nat} {p0 p1 p2 p3 p4 p5 p6 p7 p8 p9 p10 p11 p12 : Value} (h : w.heap[R]? = some (.cells #[p0, p1, p2, p3, p4, p5, p6, p7, p8, p9, p10, p11, p12] t)) :
    w.cell? ⟨R, 0, none⟩ = some p0 ∧ w.cell? ⟨R, 1, none⟩ = some p1 ∧ w.cell? ⟨R, 2, none⟩ = some p2 ∧ w.cell? ⟨R, 3, none⟩ = some p3 ∧ w.cell? ⟨R, 4, none⟩ = some p4 ∧ w.cell? ⟨R, 5, none⟩ = some p5 ∧ w.cell? ⟨R, 6, none⟩ = some p6 ∧ w.cell? ⟨R, 7, none⟩ = some p7 ∧ w.cell? ⟨R, 8, none⟩ = some p8 ∧ w.cell? ⟨R, 9, none⟩ = some p9 ∧ w.cell? ⟨R, 10, none⟩ = some p10 ∧ w.cell? ⟨R, 11, none⟩ = some p11 ∧ w.cell? ⟨R, 12, none⟩ = some p12 := by
  simp [World.cell?, h]
theorem cells12_of {t : TypeId} {w : World} {R : Nat} {p0 p1 p2 p3 p4 p5 p6 p7 p8 p9 p10 p11 : Value} (h : w.heap[R]? = some (.cells #[p0, p1, p2, p3, p4, p5, p6, p7, p8, p9, p10, p11] t)) :
    w.cell? ⟨R, 0, none⟩ = some p0 ∧ w.cell? ⟨R, 1, none⟩ = some p1 ∧ w.cell? ⟨R, 2, none⟩ = some p2 ∧ w.cell? ⟨R, 3, none⟩ = some p3 ∧ w.cell? ⟨R, 4, none⟩ = some p4 ∧ w.cell? ⟨R, 5, none⟩ = some p5 ∧ w.cell? ⟨R, 6, none⟩ = some p6 ∧ w.cell? ⟨R, 7, none⟩ = some p7 ∧ w.cell? ⟨R, 8, none⟩ = some p8 ∧ w.cell? ⟨R, 9, none⟩ = some p9 ∧ w.cell? ⟨R, 10, none⟩ = some p10 ∧ w.cell? ⟨R, 11, none⟩ = some p11 := by
  simp [World.cell?, h]
theorem three_new (w : World) (o p q : Obj) : (((w.alloc o).alloc p).alloc q).drew.heap[w.heap.size]? = some o ∧ (((w.alloc o).alloc p).alloc q).drew.heap[w.heap.size + 1]? = some p ∧ (((w.alloc o).alloc p).alloc q).drew.heap[w.heap.size + 1 + 1]? = some q ∧ Below w.heap.size w (((w.alloc o).alloc p).alloc q).drew := by
  have h1 : (w.alloc o).heap[w.heap.size]? = some o := heap_alloc_new _ _
  have h2 : ((w.alloc o).alloc p).heap[w.heap.size + 1]? = some p := by
    have := heap_alloc_new (w.alloc o) p
    rw [World.size_alloc] at this
    exact this
  have h3 : (((w.alloc o).alloc p).alloc q).heap[w.heap.size + 1 + 1]? = some q := by
    have := heap_alloc_new ((w.alloc o).alloc p) q
    rw [World.size_alloc, World.size_alloc] at this
    exact this
  exact ⟨(heap_alloc_old _ _ (by simp; omega)).trans ((heap_alloc_old _ _ (by simp)).trans h1), (heap_alloc_old _ _ (by simp)).trans h2, h3, ((((Below.refl _ _).alloc (Nat.le_refl _) _).alloc (by simp) _).alloc (by simp; omega) _).drew⟩
theorem alloc_lt (w : World) (o : Obj) : w.heap.size < (w.alloc o).heap.size := by simp
theorem alloc_lt2 (w : World) (o p : Obj) : w.heap.size < ((w.alloc o).alloc p).heap.size := by simp; omega
theorem alloc_lt3 (w : World) (o p : Obj) : w.heap.size + 1 < ((w.alloc o).alloc p).heap.size := by simp
theorem alloc_fst (w : World) (o p : Obj) : ((w.alloc o).alloc p).heap[w.heap.size]? = some o := (heap_alloc_old _ _ (alloc_lt w o)).trans (heap_alloc_new w o)
theorem alloc_snd (w : World) (o p : Obj) : ((w.alloc o).alloc p).heap[w.heap.size + 1]? = some p := by
  have := heap_alloc_new (w.alloc o) p
  rw [World.size_alloc] at this
  exact this
theorem drew_new (w : World) (o : Obj) : (w.alloc o).drew.heap[w.heap.size]? = some o := heap_alloc_new w o
theorem drew_lt (w : World) (o : Obj) : w.heap.size < (w.alloc o).drew.heap.size := alloc_lt w o
theorem FitR.alloc' {lo hi : Nat} {W : World} {gs : List Fm} {a : Option Addr} {n cap : Nat} (h : FitR lo hi W gs a n cap) (o : Obj) : FitR lo hi (W.alloc o) gs a n cap := h.keeps (Keeps.of_below ((Below.refl _ _).alloc (Nat.le_refl _) _) h.top)
theorem below_new {B : Nat} {a w : World} (h : Below B a w) (hB : B ≤ a.heap.size) (o : Obj) : Below B a (w.alloc o) := h.alloc (Nat.le_trans hB h.size) o
theorem below_set4 {B A : Nat} {a w : World} {p q r s : Value} (h : Below B a w) (hA : B ≤ A) : Below B a ((((w.setCell ⟨A, 0, none⟩ p).setCell ⟨A, 1, none⟩ q).setCell ⟨A, 2, none⟩ r).setCell ⟨A, 3, none⟩ s) := (((h.setCell (p := ⟨A, 0, none⟩) hA p).setCell (p := ⟨A, 1, none⟩) hA q).setCell (p := ⟨A, 2, none⟩) hA r).setCell (p := ⟨A, 3, none⟩) hA s
theorem below_al {a w : World} (h : Below a.heap.size a w) (o : Obj) : Below a.heap.size a (w.alloc o) := h.alloc h.size o
theorem tw_of {N lo hi : Nat} {W : World} {g : Option Nat} {gs : List Fm} {a : Option Addr} {n cap : Nat} (h : FitR lo hi W gs a n cap) (hN : N ≤ lo) (hg : ∀ j, g = some j → j < lo ∨ hi ≤ j) (op v x : Int) : Tw N W g (op, v, x, (a, n, cap)) (.mk op v x gs) := ⟨gs, lo, hi, rfl, hN, h, hg⟩
theorem noOwn {lo hi : Nat} : ∀ j, (none : Option Nat) = some j → j < lo ∨ hi ≤ j := fun j e => by cases e
theorem twL2 {N : Nat} {W : World} {g : Option Nat} {c1 c2 : N4} {f1 f2 : Fm} (h1 : Tw N W g c1 f1) (h2 : Tw N W g c2 f2) : TwL N W g [c1, c2] [f1, f2] := ((TwL.nil N W g).snoc h1).snoc h2
theorem twL3 {N : Nat} {W : World} {g : Option Nat} {c1 c2 c3 : N4} {f1 f2 f3 : Fm} (h1 : Tw N W g c1 f1) (h2 : Tw N W g c2 f2) (h3 : Tw N W g c3 f3) : TwL N W g [c1, c2, c3] [f1, f2, f3] := (twL2 h1 h2).snoc h3
theorem TwL.cons {N : Nat} {W : World} {g : Option Nat} {c : N4} {f : Fm} {cs : List N4} {fs : List Fm} (h : Tw N W g c f) (k : TwL N W g cs fs) : TwL N W g (c :: cs) (f :: fs) :=
  ⟨by simp [k.len], fun i c2 f2 h1 h2 => by
    cases i with
    | zero => simp at h1 h2; rw [← h1, ← h2]; exact h
    | succ i => exact k.each i c2 f2 (by simpa using h1) (by simpa using h2)⟩
theorem TwL.none {N : Nat} {W : World} {g : Option Nat} {cs : List N4} {fs : List Fm} (h : TwL N W g cs fs) : TwL N W none cs fs := ⟨h.len, fun i c f h1 h2 => by
  obtain ⟨gs, lo, hi, e, hN, hF, _⟩ := h.each i c f h1 h2
  exact ⟨gs, lo, hi, e, hN, hF, noOwn⟩⟩
end Gim
namespace Go.Proofs.Ytmdanfeilgeoaaa
open Go.RowKit Gim Go.Sort Go.Lib
theorem endA {t : TypeId} {w0 wc : World} {cs : List N4} {fs : List Fm} {arr : Array Value} {box : Obj} {n b A : Nat} (hc : Below w0.heap.size w0 wc) (ha : arr = (cells4 cs).toArray) (hn : cs.length = n) (hb : b = wc.heap.size) (hA : A = wc.heap.size + 1) (hm : n ≤ maxLen) (hk : TwL w0.heap.size wc none cs fs) :
    Hid (((wc.alloc (.cells arr t)).alloc box).heap[A]? = some box ∧ FitS ((wc.alloc (.cells arr t)).alloc box) fs (some ⟨b, 0, none⟩) n n ∧ Below w0.heap.size w0 ((wc.alloc (.cells arr t)).alloc box)) := by
  subst ha hn hb hA
  have hbl : Below wc.heap.size wc ((wc.alloc (.cells (cells4 cs).toArray t)).alloc box) := ((Below.refl _ _).alloc (Nat.le_refl _) _).alloc (by simp) _
  exact Lib.hid ⟨alloc_snd _ _ _, (fitR_built (N := w0.heap.size) (alloc_fst _ _ _) hc.size hm (hk.below hbl)).here, hc.trans (hbl.mono hc.size)⟩
theorem endB {t : TypeId} {A : Nat} {w0 wc : World} {cs : List N4} {fs : List Fm} {arr : Array Value} {box : Obj} {n b : Nat} (hc : Below w0.heap.size w0 wc) (ha : arr = (cells4 cs).toArray) (hn : cs.length = n) (hb : b = wc.heap.size) (hm : n ≤ maxLen) (hz : wc.heap[A]? = some box) (hk : TwL w0.heap.size wc none cs fs) :
    Hid ((wc.alloc (.cells arr t)).heap[A]? = some box ∧ FitS (wc.alloc (.cells arr t)) fs (some ⟨b, 0, none⟩) n n ∧ Below w0.heap.size w0 (wc.alloc (.cells arr t))) := by
  subst ha hn hb
  have hbl : Below wc.heap.size wc (wc.alloc (.cells (cells4 cs).toArray t)) := (Below.refl _ _).alloc (Nat.le_refl _) _
  exact Lib.hid ⟨(heap_alloc_old _ _ (Array.getElem?_eq_some_iff.1 hz).1).trans hz, (fitR_built (N := w0.heap.size) (heap_alloc_new _ _) hc.size hm (hk.below hbl)).here, hc.trans (hbl.mono hc.size)⟩
theorem endC {t : TypeId} {A : Nat} {w0 wc : World} {cs : List N4} {fs : List Fm} {arr : Array Value} {p q r s p' q' r' s' : Value} {t2 : TypeId} {n b : Nat} (hc : Below w0.heap.size w0 wc) (ha : arr = (cells4 cs).toArray) (hn : cs.length = n) (hb : b = wc.heap.size) (hm : n ≤ maxLen) (hz : wc.heap[A]? = some (.cells #[p, q, r, s] t2)) (hA : w0.heap.size ≤ A) (hk : TwL w0.heap.size wc (some A) cs fs) :
    Hid ((((((wc.alloc (.cells arr t)).setCell ⟨A, 0, none⟩ p').setCell ⟨A, 1, none⟩ q').setCell ⟨A, 2, none⟩ r').setCell ⟨A, 3, none⟩ s').heap[A]? = some (.cells #[p', q', r', s'] t2) ∧ FitS (((((wc.alloc (.cells arr t)).setCell ⟨A, 0, none⟩ p').setCell ⟨A, 1, none⟩ q').setCell ⟨A, 2, none⟩ r').setCell ⟨A, 3, none⟩ s') fs (some ⟨b, 0, none⟩) n n ∧ Below w0.heap.size w0 (((((wc.alloc (.cells arr t)).setCell ⟨A, 0, none⟩ p').setCell ⟨A, 1, none⟩ q').setCell ⟨A, 2, none⟩ r').setCell ⟨A, 3, none⟩ s')) := by
  subst ha hn hb
  have hzl := (Array.getElem?_eq_some_iff.1 hz).1
  have hbl : Below wc.heap.size wc (wc.alloc (.cells (cells4 cs).toArray t)) := (Below.refl _ _).alloc (Nat.le_refl _) _
  obtain ⟨h8, g8⟩ := out4 ((heap_alloc_old wc (.cells (cells4 cs).toArray t) hzl).trans hz) p' q' r' s'
  have hnew : ((((((wc.alloc (.cells (cells4 cs).toArray t)).setCell ⟨A, 0, none⟩ p').setCell ⟨A, 1, none⟩ q').setCell ⟨A, 2, none⟩ r').setCell ⟨A, 3, none⟩ s')).heap[wc.heap.size]? = some (.cells (cells4 cs).toArray t) := (g8.block _ (alloc_lt _ _) (fun e => by have := Option.some.inj e; omega)).trans (heap_alloc_new _ _)
  have hk2 := ((hk.below hbl).grown g8 (.inl rfl)).none
  have hcb := hc.trans (hbl.mono hc.size)
  exact Lib.hid ⟨h8, (fitR_built (N := w0.heap.size) hnew hc.size hm hk2).here, hcb.grown g8 hcb.size (fun j e => by cases e; exact hA)⟩
theorem tw_inner {t : TypeId} {b1 n2 : Nat} {N : Nat} {wc : World} {cs2 : List N4} {fs2 : List Fm} {arr2 : Array Value} (hy : wc.heap[b1]? = some (.cells arr2 t)) (ha2 : arr2 = (cells4 cs2).toArray) (hn2 : cs2.length = n2) (hm2 : n2 ≤ maxLen) (hb1 : N ≤ b1) (hk2 : TwL N wc none cs2 fs2) (op v x : Int) : Tw N wc none (op, v, x, (some ⟨b1, 0, none⟩, n2, n2)) (.mk op v x fs2) := by
  subst ha2 hn2
  exact tw_of (fitR_built hy hb1 hm2 hk2) (Nat.le_refl _) noOwn op v x
theorem endA2 {t : TypeId} {w0 wc : World} {cs2 cs3 : List N4} {fs2 fs3 : List Fm} {arr arr2 : Array Value} {box : Obj} {n n2 b b1 A : Nat} {op v x : Int} (hc : Below w0.heap.size w0 wc) (hy : wc.heap[b1]? = some (.cells arr2 t)) (ha2 : arr2 = (cells4 cs2).toArray) (hn2 : cs2.length = n2) (hm2 : n2 ≤ maxLen) (hb1 : w0.heap.size ≤ b1) (ha : arr = (cells4 ((op, v, x, (some ⟨b1, 0, none⟩, n2, n2)) :: cs3)).toArray) (hn : cs3.length + 1 = n) (hb : b = wc.heap.size) (hA : A = wc.heap.size + 1) (hm : n ≤ maxLen) (hk2 : TwL w0.heap.size wc none cs2 fs2) (hk3 : TwL w0.heap.size wc none cs3 fs3) :
    Hid (((wc.alloc (.cells arr t)).alloc box).heap[A]? = some box ∧ FitS ((wc.alloc (.cells arr t)).alloc box) (.mk op v x fs2 :: fs3) (some ⟨b, 0, none⟩) n n ∧ Below w0.heap.size w0 ((wc.alloc (.cells arr t)).alloc box)) :=
  endA hc ha (by simpa using hn) hb hA hm (TwL.cons (tw_inner hy ha2 hn2 hm2 hb1 hk2 op v x) hk3)
theorem endB2 {t : TypeId} {w0 wc : World} {cs2 cs3 : List N4} {fs2 fs3 : List Fm} {arr arr2 : Array Value} {box : Obj} {n n2 b b1 A : Nat} {op v x : Int} (hc : Below w0.heap.size w0 wc) (hy : wc.heap[b1]? = some (.cells arr2 t)) (ha2 : arr2 = (cells4 cs2).toArray) (hn2 : cs2.length = n2) (hm2 : n2 ≤ maxLen) (hb1 : w0.heap.size ≤ b1) (ha : arr = (cells4 ((op, v, x, (some ⟨b1, 0, none⟩, n2, n2)) :: cs3)).toArray) (hn : cs3.length + 1 = n) (hb : b = wc.heap.size) (hz : wc.heap[A]? = some box) (hm : n ≤ maxLen) (hk2 : TwL w0.heap.size wc none cs2 fs2) (hk3 : TwL w0.heap.size wc none cs3 fs3) :
    Hid ((wc.alloc (.cells arr t)).heap[A]? = some box ∧ FitS (wc.alloc (.cells arr t)) (.mk op v x fs2 :: fs3) (some ⟨b, 0, none⟩) n n ∧ Below w0.heap.size w0 (wc.alloc (.cells arr t))) :=
  endB hc ha (by simpa using hn) hb hm hz (TwL.cons (tw_inner hy ha2 hn2 hm2 hb1 hk2 op v x) hk3)
theorem endC2 {t : TypeId} {A : Nat} {w0 wc : World} {cs2 cs3 : List N4} {fs2 fs3 : List Fm} {arr arr2 : Array Value} {n n2 b b1 : Nat} {op v x : Int} {p q r s p' q' r' s' : Value} {t2 : TypeId} (hc : Below w0.heap.size w0 wc) (hy : wc.heap[b1]? = some (.cells arr2 t)) (ha2 : arr2 = (cells4 cs2).toArray) (hn2 : cs2.length = n2) (hm2 : n2 ≤ maxLen) (hb1 : w0.heap.size ≤ b1) (ha : arr = (cells4 ((op, v, x, (some ⟨b1, 0, none⟩, n2, n2)) :: cs3)).toArray) (hn : cs3.length + 1 = n) (hb : b = wc.heap.size) (hm : n ≤ maxLen) (hz : wc.heap[A]? = some (.cells #[p, q, r, s] t2)) (hA : w0.heap.size ≤ A) (hne : b1 ≠ A) (hk2 : TwL w0.heap.size wc (some A) cs2 fs2) (hk3 : TwL w0.heap.size wc (some A) cs3 fs3) :
    Hid ((((((wc.alloc (.cells arr t)).setCell ⟨A, 0, none⟩ p').setCell ⟨A, 1, none⟩ q').setCell ⟨A, 2, none⟩ r').setCell ⟨A, 3, none⟩ s').heap[A]? = some (.cells #[p', q', r', s'] t2) ∧ FitS (((((wc.alloc (.cells arr t)).setCell ⟨A, 0, none⟩ p').setCell ⟨A, 1, none⟩ q').setCell ⟨A, 2, none⟩ r').setCell ⟨A, 3, none⟩ s') (.mk op v x fs2 :: fs3) (some ⟨b, 0, none⟩) n n ∧ Below w0.heap.size w0 (((((wc.alloc (.cells arr t)).setCell ⟨A, 0, none⟩ p').setCell ⟨A, 1, none⟩ q').setCell ⟨A, 2, none⟩ r').setCell ⟨A, 3, none⟩ s')) := by
  have hn' : ((op, v, x, (some ⟨b1, 0, none⟩, n2, n2)) :: cs3 : List N4).length = n := by simpa using hn
  subst ha hn' hb
  have hzl := (Array.getElem?_eq_some_iff.1 hz).1
  have hyl := (Array.getElem?_eq_some_iff.1 hy).1
  obtain ⟨arr, harr⟩ : ∃ arr, (cells4 ((op, v, x, (some ⟨b1, 0, none⟩, n2, n2)) :: cs3)).toArray = arr := ⟨_, rfl⟩
  rw [harr]
  have hbl : Below wc.heap.size wc (wc.alloc (.cells arr t)) := (Below.refl _ _).alloc (Nat.le_refl _) _
  obtain ⟨h8, g8⟩ := out4 ((heap_alloc_old wc (.cells arr t) hzl).trans hz) p' q' r' s'
  have hnew : ((((((wc.alloc (.cells arr t)).setCell ⟨A, 0, none⟩ p').setCell ⟨A, 1, none⟩ q').setCell ⟨A, 2, none⟩ r').setCell ⟨A, 3, none⟩ s')).heap[wc.heap.size]? = some (.cells arr t) := (g8.block _ (alloc_lt _ _) (fun e => by have := Option.some.inj e; omega)).trans (heap_alloc_new _ _)
  have hy8 : ((((((wc.alloc (.cells arr t)).setCell ⟨A, 0, none⟩ p').setCell ⟨A, 1, none⟩ q').setCell ⟨A, 2, none⟩ r').setCell ⟨A, 3, none⟩ s')).heap[b1]? = some (.cells arr2 t) := (g8.block _ (Nat.lt_of_lt_of_le hyl hbl.size) (fun e => hne (Option.some.inj e))).trans ((heap_alloc_old _ _ hyl).trans hy)
  have hk2' := ((hk2.below hbl).grown g8 (.inl rfl)).none
  have hk3' := ((hk3.below hbl).grown g8 (.inl rfl)).none
  have hcb := hc.trans (hbl.mono hc.size)
  rw [← harr] at hnew
  rw [← harr] at hk2' hk3' h8 g8 hy8 hcb ⊢
  exact Lib.hid ⟨h8, (fitR_built (N := w0.heap.size) hnew hc.size hm (TwL.cons (tw_inner hy8 ha2 hn2 hm2 hb1 hk2' op v x) hk3')).here, hcb.grown g8 hcb.size (fun j e => by cases e; exact hA)⟩
theorem endS1 {A lo hi gn gc : Nat} {gss : List Fm} {ga : Option Addr} {w0 wb : World} {box : Obj} {P : Prop} (hp : P) (hc : Below w0.heap.size w0 wb) (hA : A = wb.heap.size) (hf : FitR lo hi wb gss ga gn gc) :
    Hid (w0.heap.size ≤ A ∧ (wb.alloc box).heap[A]? = some box ∧ P ∧ FitS (wb.alloc box) gss ga gn gc ∧ Below w0.heap.size w0 (wb.alloc box)) := by
  subst hA
  have hbl : Below wb.heap.size wb (wb.alloc box) := (Below.refl _ _).alloc (Nat.le_refl _) _
  exact Lib.hid ⟨hc.size, heap_alloc_new _ _, hp, (hf.keeps (Keeps.of_below hbl hf.top)).here, hc.trans (hbl.mono hc.size)⟩
theorem endS2 {A lo hi gn gc : Nat} {gss : List Fm} {ga : Option Addr} {w0 wb : World} {p q r s p' q' r' s' : Value} {t2 : TypeId} {P : Prop} (hp : P) (hc : Below w0.heap.size w0 wb) (hz : wb.heap[A]? = some (.cells #[p, q, r, s] t2)) (hA : w0.heap.size ≤ A) (hAf : A < lo ∨ hi ≤ A) (hf : FitR lo hi wb gss ga gn gc) :
    Hid (w0.heap.size ≤ A ∧ ((((wb.setCell ⟨A, 0, none⟩ p').setCell ⟨A, 1, none⟩ q').setCell ⟨A, 2, none⟩ r').setCell ⟨A, 3, none⟩ s').heap[A]? = some (.cells #[p', q', r', s'] t2) ∧ P ∧ FitS ((((wb.setCell ⟨A, 0, none⟩ p').setCell ⟨A, 1, none⟩ q').setCell ⟨A, 2, none⟩ r').setCell ⟨A, 3, none⟩ s') gss ga gn gc ∧ Below w0.heap.size w0 ((((wb.setCell ⟨A, 0, none⟩ p').setCell ⟨A, 1, none⟩ q').setCell ⟨A, 2, none⟩ r').setCell ⟨A, 3, none⟩ s')) := by
  obtain ⟨h8, g8⟩ := out4 hz p' q' r' s'
  exact Lib.hid ⟨hA, h8, hp, (hf.keeps (Keeps.of_grown g8 hf.top (fun j e => by cases e; exact hAf))).here, hc.grown g8 hc.size (fun j e => by cases e; exact hA)⟩
end Go.Proofs.Ytmdanfeilgeoaaa
namespace Gim
open Go Go.RowKit
end Gim
namespace Go.Proofs.Ytmdanfeilgeoaaa
open Go.RowKit Gim Go.Sort Go.Lib
set_option maxRecDepth 100000 in
set_option maxHeartbeats 16000000 in
theorem turns_walk (op1 v1 x1 : Int) (gs1 : List Fm) (a1 : Option Addr) (n1 cap1 : Nat) (op2 v2 x2 : Int) (gs2 : List Fm) (a2 : Option Addr) (n2 cap2 : Nat) (op3 v3 x3 : Int) (gs3 : List Fm) (a3 : Option Addr) (n3 cap3 : Nat) (va : Option Addr) (vn vc : Nat) (vs : List Int) (w : World)
    (hF1 : FitS w gs1 a1 n1 cap1) (hF2 : FitS w gs2 a2 n2 cap2) (hF3 : FitS w gs3 a3 n3 cap3) (hV : Rd w .i64 va vn vc vs) (hVn : va = none → vn = 0 ∧ vc = 0) (_hVw : ∀ x ∈ vs, (Lit.int .i64 x).wf = true) (hVb : vn ≤ 1048576) :
    Calls Try.prog 4 #[.agg #[.int .i64 op1, .int .i64 v1, .int .i64 x1, .slice a1 n1 cap1, .int .i64 op2, .int .i64 v2, .int .i64 x2, .slice a2 n2 cap2, .int .i64 op3, .int .i64 v3, .int .i64 x3, .slice a3 n3 cap3, .slice va vn vc]] w fun e w' => e = .returned (.bool true) ∧ Below w.heap.size w w' := by
  have hb0 : Below w.heap.size w (w.alloc (.cells #[.int .i64 op1, .int .i64 v1, .int .i64 x1, .slice a1 n1 cap1, .int .i64 op2, .int .i64 v2, .int .i64 x2, .slice a2 n2 cap2, .int .i64 op3, .int .i64 v3, .int .i64 x3, .slice a3 n3 cap3, .slice va vn vc] 44)) := ((Grows.refl _).alloc _).below
  have hbx := heap_alloc_new w (.cells #[.int .i64 op1, .int .i64 v1, .int .i64 x1, .slice a1 n1 cap1, .int .i64 op2, .int .i64 v2, .int .i64 x2, .slice a2 n2 cap2, .int .i64 op3, .int .i64 v3, .int .i64 x3, .slice a3 n3 cap3, .slice va vn vc] 44)
  have HF1 := Lib.hid (hF1.below hb0)
  have HF2 := Lib.hid (hF2.below hb0)
  have HF3 := Lib.hid (hF3.below hb0)
  have HV1 := Lib.hid (hV.below hb0)
  obtain ⟨W1, hW1⟩ : ∃ W1, w.alloc (.cells #[.int .i64 op1, .int .i64 v1, .int .i64 x1, .slice a1 n1 cap1, .int .i64 op2, .int .i64 v2, .int .i64 x2, .slice a2 n2 cap2, .int .i64 op3, .int .i64 v3, .int .i64 x3, .slice a3 n3 cap3, .slice va vn vc] 44) = W1 := ⟨_, rfl⟩
  rw [hW1] at hb0 hbx HF1 HF2 HF3 HV1
  have HB0 := Lib.hid hb0
  have HVN := Lib.hid hVn
  have HVL := Lib.hid hV.len
  have HVB := Lib.hid hVb
  have hvb : vn ≤ 9223372036854775807 := by omega
  obtain ⟨B, hB⟩ : ∃ B, Hid (w.heap.size = B) := ⟨_, Lib.hid rfl⟩
  rw [hB.out] at hbx
  have HBX := Lib.hid hbx
  have HB1 : Hid (Below W1.heap.size W1 W1) := Lib.hid (Below.refl _ _)
  clear hF1 hF2 hF3 hV hb0 hbx hVn hVb
  go_enter Try.func4, Try.ntmps4
  go_upto_region 1 with fail
  try rw [hW1]
  try rw [hB.out]
  clear hW1
  have hG := great_calls op1 v1 x1 gs1 a1 n1 cap1 W1 (HF1.out.below HB1.out)
  obtain ⟨b0, b1, b2, b3, b4, b5, b6, b7, b8, b9, b10, b11, b12⟩ := cells13_of ((HB1.out.block B (Array.getElem?_eq_some_iff.1 HBX.out).1).trans HBX.out)
  go_wp2_with fail
  by_cases hr1 : restF (.mk op1 v1 x1 gs1) 65536 < 0
  · rw [decide_eq_true hr1] at hG
    clear hr1
    refine hG.mono ?_
    rintro e w2 ⟨rfl, g⟩
    have HB2 := Lib.hid (HB1.out.trans (g.below.mono HB1.out.size))
    clear hG g b0 b1 b2 b3 b4 b5 b6 b7 b8 b9 b10 b11 b12
    have hX := fixed_calls w2
    go_wp2_with fail
    refine hX.mono ?_
    rintro e wF ⟨rfl, b⟩
    have HBF := Lib.hid (HB0.out.trans ((HB2.out.trans (b.mono HB2.out.size)).mono HB0.out.size))
    clear hX b
    go_wp2_with fail
    go_ret
    exact ⟨rfl, HBF.out⟩
  rw [decide_eq_false hr1] at hG
  have HSZ1 := Lib.hid (sz_small hr1)
  clear hr1
  refine hG.mono ?_
  rintro e w2 ⟨rfl, g⟩
  have HB2 := Lib.hid (HB1.out.trans (g.below.mono HB1.out.size))
  clear hG g b0 b1 b2 b3 b4 b5 b6 b7 b8 b9 b10 b11 b12
  have hG := great_calls op2 v2 x2 gs2 a2 n2 cap2 w2 (HF2.out.below HB2.out)
  obtain ⟨b0, b1, b2, b3, b4, b5, b6, b7, b8, b9, b10, b11, b12⟩ := cells13_of ((HB2.out.block B (Array.getElem?_eq_some_iff.1 HBX.out).1).trans HBX.out)
  go_wp2_with fail
  by_cases hr2 : restF (.mk op2 v2 x2 gs2) 65536 < 0
  · rw [decide_eq_true hr2] at hG
    clear hr2
    refine hG.mono ?_
    rintro e w3 ⟨rfl, g⟩
    have HB3 := Lib.hid (HB2.out.trans (g.below.mono HB2.out.size))
    clear hG g b0 b1 b2 b3 b4 b5 b6 b7 b8 b9 b10 b11 b12
    have hX := fixed_calls w3
    go_wp2_with fail
    refine hX.mono ?_
    rintro e wF ⟨rfl, b⟩
    have HBF := Lib.hid (HB0.out.trans ((HB3.out.trans (b.mono HB3.out.size)).mono HB0.out.size))
    clear hX b
    go_wp2_with fail
    go_ret
    exact ⟨rfl, HBF.out⟩
  rw [decide_eq_false hr2] at hG
  have HSZ2 := Lib.hid (sz_small hr2)
  clear hr2
  refine hG.mono ?_
  rintro e w3 ⟨rfl, g⟩
  have HB3 := Lib.hid (HB2.out.trans (g.below.mono HB2.out.size))
  clear hG g b0 b1 b2 b3 b4 b5 b6 b7 b8 b9 b10 b11 b12
  have hG := great_calls op3 v3 x3 gs3 a3 n3 cap3 w3 (HF3.out.below HB3.out)
  obtain ⟨b0, b1, b2, b3, b4, b5, b6, b7, b8, b9, b10, b11, b12⟩ := cells13_of ((HB3.out.block B (Array.getElem?_eq_some_iff.1 HBX.out).1).trans HBX.out)
  go_wp2_with fail
  by_cases hr3 : restF (.mk op3 v3 x3 gs3) 65536 < 0
  · rw [decide_eq_true hr3] at hG
    clear hr3
    refine hG.mono ?_
    rintro e w4 ⟨rfl, g⟩
    have HB4 := Lib.hid (HB3.out.trans (g.below.mono HB3.out.size))
    clear hG g b0 b1 b2 b3 b4 b5 b6 b7 b8 b9 b10 b11 b12
    have hX := fixed_calls w4
    go_wp2_with fail
    refine hX.mono ?_
    rintro e wF ⟨rfl, b⟩
    have HBF := Lib.hid (HB0.out.trans ((HB4.out.trans (b.mono HB4.out.size)).mono HB0.out.size))
    clear hX b
    go_wp2_with fail
    go_ret
    exact ⟨rfl, HBF.out⟩
  rw [decide_eq_false hr3] at hG
  have HSZ3 := Lib.hid (sz_small hr3)
  clear hr3
  refine hG.mono ?_
  rintro e w4 ⟨rfl, g⟩
  have HB4 := Lib.hid (HB3.out.trans (g.below.mono HB3.out.size))
  clear hG g b0 b1 b2 b3 b4 b5 b6 b7 b8 b9 b10 b11 b12
  obtain ⟨b0, b1, b2, b3, b4, b5, b6, b7, b8, b9, b10, b11, b12⟩ := cells13_of ((HB4.out.block B (Array.getElem?_eq_some_iff.1 HBX.out).1).trans HBX.out)
  have HX4 := Lib.hid ((HB4.out.block B (Array.getElem?_eq_some_iff.1 HBX.out).1).trans HBX.out)
  have HLT4 := Lib.hid (Array.getElem?_eq_some_iff.1 HX4.out).1
  have hne4 : w4.heap.size ≠ B := by have := HLT4.out; omega
  have hne5 : (w4.alloc (.cells #[.int .i64 0, .int .i64 0, .int .i64 0, .slice none 0 0] 26)).heap.size ≠ B := by have := HLT4.out; simp; omega
  have hne6 : ((w4.alloc (.cells #[.int .i64 0, .int .i64 0, .int .i64 0, .slice none 0 0] 26)).alloc (.cells #[.int .i64 0, .int .i64 0, .int .i64 0, .slice none 0 0] 26)).heap.size ≠ B := by have := HLT4.out; simp; omega
  have h13a : ∀ o, (w4.alloc o).heap[B]? = some (.cells #[.int .i64 op1, .int .i64 v1, .int .i64 x1, .slice a1 n1 cap1, .int .i64 op2, .int .i64 v2, .int .i64 x2, .slice a2 n2 cap2, .int .i64 op3, .int .i64 v3, .int .i64 x3, .slice a3 n3 cap3, .slice va vn vc] 44) := fun o => (heap_alloc_old _ _ HLT4.out).trans HX4.out
  have h13b : ∀ o p, ((w4.alloc o).alloc p).heap[B]? = some (.cells #[.int .i64 op1, .int .i64 v1, .int .i64 x1, .slice a1 n1 cap1, .int .i64 op2, .int .i64 v2, .int .i64 x2, .slice a2 n2 cap2, .int .i64 op3, .int .i64 v3, .int .i64 x3, .slice a3 n3 cap3, .slice va vn vc] 44) := fun o p => (heap_alloc_old _ _ (by have := HLT4.out; simp; omega)).trans (h13a o)
  have h13c : ∀ o p q, (((w4.alloc o).alloc p).alloc q).heap[B]? = some (.cells #[.int .i64 op1, .int .i64 v1, .int .i64 x1, .slice a1 n1 cap1, .int .i64 op2, .int .i64 v2, .int .i64 x2, .slice a2 n2 cap2, .int .i64 op3, .int .i64 v3, .int .i64 x3, .slice a3 n3 cap3, .slice va vn vc] 44) := fun o p q => (heap_alloc_old _ _ (by have := HLT4.out; simp; omega)).trans (h13b o p)
  have H13A := Lib.hid h13a
  have H13B := Lib.hid h13b
  have H13C := Lib.hid h13c
  clear h13a h13b h13c
  go_upto_region 3 with fail
  go_cut [3, 4, 5, 6] from 34 to 41 (fun p3 p4 p5 v6 wx => ∃ P1 P2 P3, p3 = .pointer (some ⟨P1, 0, none⟩) ∧ p4 = .pointer (some ⟨P2, 0, none⟩) ∧ p5 = .pointer (some ⟨P3, 0, none⟩) ∧ v6 = .slice va vn vc ∧ Hid (wx.heap[P1]? = some (.cells #[.int .i64 op1, .int .i64 v1, .int .i64 x1, .slice a1 n1 cap1] 26) ∧ wx.heap[P2]? = some (.cells #[.int .i64 op2, .int .i64 v2, .int .i64 x2, .slice a2 n2 cap2] 26) ∧ wx.heap[P3]? = some (.cells #[.int .i64 op3, .int .i64 v3, .int .i64 x3, .slice a3 n3 cap3] 26) ∧ Below w4.heap.size w4 wx))
  case first =>
    go_region_held3 (fun W => W.cell? ⟨B, 0, none⟩ = some (.int .i64 op1) ∧ W.cell? ⟨B, 1, none⟩ = some (.int .i64 v1) ∧ W.cell? ⟨B, 2, none⟩ = some (.int .i64 x1) ∧ W.cell? ⟨B, 3, none⟩ = some (.slice a1 n1 cap1) ∧ W.cell? ⟨B, 4, none⟩ = some (.int .i64 op2) ∧ W.cell? ⟨B, 5, none⟩ = some (.int .i64 v2) ∧ W.cell? ⟨B, 6, none⟩ = some (.int .i64 x2) ∧ W.cell? ⟨B, 7, none⟩ = some (.slice a2 n2 cap2) ∧ W.cell? ⟨B, 8, none⟩ = some (.int .i64 op3) ∧ W.cell? ⟨B, 9, none⟩ = some (.int .i64 v3) ∧ W.cell? ⟨B, 10, none⟩ = some (.int .i64 x3) ∧ W.cell? ⟨B, 11, none⟩ = some (.slice a3 n3 cap3) ∧ W.cell? ⟨B, 12, none⟩ = some (.slice va vn vc)) (first | exact cells13_of (H13A.out _) | exact cells13_of (H13B.out _ _) | exact cells13_of (H13C.out _ _ _) | go_keep) (first
      | fail)
    all_goals
      clear H13A H13B H13C
      go_wp2_with fail
      go_meet
      case rel =>
        first
          | exact ⟨_, _, _, rfl, rfl, rfl, rfl, Lib.hid ⟨(three_new _ _ _ _).1, (three_new _ _ _ _).2.1, (three_new _ _ _ _).2.2.1, (three_new _ _ _ _).2.2.2⟩⟩
          | exact ⟨_, _, _, rfl, rfl, rfl, rfl, Lib.hid ⟨(three_new _ _ _ _).1, (three_new _ _ _ _).2.2.1, (three_new _ _ _ _).2.1, (three_new _ _ _ _).2.2.2⟩⟩
          | exact ⟨_, _, _, rfl, rfl, rfl, rfl, Lib.hid ⟨(three_new _ _ _ _).2.1, (three_new _ _ _ _).1, (three_new _ _ _ _).2.2.1, (three_new _ _ _ _).2.2.2⟩⟩
          | exact ⟨_, _, _, rfl, rfl, rfl, rfl, Lib.hid ⟨(three_new _ _ _ _).2.1, (three_new _ _ _ _).2.2.1, (three_new _ _ _ _).1, (three_new _ _ _ _).2.2.2⟩⟩
          | exact ⟨_, _, _, rfl, rfl, rfl, rfl, Lib.hid ⟨(three_new _ _ _ _).2.2.1, (three_new _ _ _ _).1, (three_new _ _ _ _).2.1, (three_new _ _ _ _).2.2.2⟩⟩
          | exact ⟨_, _, _, rfl, rfl, rfl, rfl, Lib.hid ⟨(three_new _ _ _ _).2.2.1, (three_new _ _ _ _).2.1, (three_new _ _ _ _).1, (three_new _ _ _ _).2.2.2⟩⟩
  case rest =>
    obtain ⟨P1, P2, P3, rfl, rfl, rfl, rfl, HP⟩ := hcut
    obtain ⟨w5, hw5⟩ : ∃ w5, w5 = wc := ⟨_, rfl⟩
    subst hw5
    have HP1 := Lib.hid HP.out.1
    have HP2 := Lib.hid HP.out.2.1
    have HP3 := Lib.hid HP.out.2.2.1
    have HB5 := Lib.hid (HB4.out.trans (HP.out.2.2.2.mono HB4.out.size))
    have HQ5 : Hid (Below w5.heap.size w5 w5) := Lib.hid (Below.refl _ _)
    clear HP H13A H13B H13C b0 b1 b2 b3 b4 b5 b6 b7 b8 b9 b10 b11 b12 hne4 hne5 hne6
    have hX := fixed_calls w5
    go_wp2_with fail
    refine hX.mono ?_
    rintro e w6 ⟨rfl, b⟩
    have HB6 := Lib.hid (HB5.out.trans (b.mono HB5.out.size))
    have HQ6 := Lib.hid (HQ5.out.trans (b.mono HQ5.out.size))
    clear hX b
    obtain ⟨⟨k0, k1, k2, k3⟩, _⟩ := cells4_of ((HQ6.out.block P1 (Array.getElem?_eq_some_iff.1 HP1.out).1).trans HP1.out)
    obtain ⟨⟨l0, l1, l2, l3⟩, _⟩ := cells4_of ((HQ6.out.block P2 (Array.getElem?_eq_some_iff.1 HP2.out).1).trans HP2.out)
    obtain ⟨⟨m0, m1, m2, m3⟩, _⟩ := cells4_of ((HQ6.out.block P3 (Array.getElem?_eq_some_iff.1 HP3.out).1).trans HP3.out)
    have hsb : Below w6.heap.size w6 (w6.alloc (.cells #[.int .i64 op1, .int .i64 v1, .int .i64 x1, .slice a1 n1 cap1, .int .i64 op2, .int .i64 v2, .int .i64 x2, .slice a2 n2 cap2, .int .i64 op3, .int .i64 v3, .int .i64 x3, .slice a3 n3 cap3] 26)) := (Below.refl _ _).alloc (Nat.le_refl _) _
    have hsx := heap_alloc_new w6 (.cells #[.int .i64 op1, .int .i64 v1, .int .i64 x1, .slice a1 n1 cap1, .int .i64 op2, .int .i64 v2, .int .i64 x2, .slice a2 n2 cap2, .int .i64 op3, .int .i64 v3, .int .i64 x3, .slice a3 n3 cap3] 26)
    go_upto_region 7 with fail
    obtain ⟨w7, hw7⟩ : ∃ w7, w6.alloc (.cells #[.int .i64 op1, .int .i64 v1, .int .i64 x1, .slice a1 n1 cap1, .int .i64 op2, .int .i64 v2, .int .i64 x2, .slice a2 n2 cap2, .int .i64 op3, .int .i64 v3, .int .i64 x3, .slice a3 n3 cap3] 26) = w7 := ⟨_, rfl⟩
    obtain ⟨T, hT⟩ : ∃ T, Hid (w6.heap.size = T) := ⟨_, Lib.hid rfl⟩
    rw [hw7] at hsb hsx ⊢
    rw [hT.out] at hsx
    try rw [hT.out]
    have HSX := Lib.hid hsx
    have HB7 := Lib.hid (HB6.out.trans (hsb.mono HB6.out.size))
    have HQ7 := Lib.hid (HQ6.out.trans (hsb.mono HQ6.out.size))
    clear hsb hsx hw7 k0 k1 k2 k3 l0 l1 l2 l3 m0 m1 m2 m3
    go_wp2_with fail
    go_loopw [49] (fun i wr => ∃ (q : Nat), i = .int .i64 q ∧ q ≤ 3 ∧ Hid ((0 < q → isB (.mk op1 v1 x1 gs1) = true) ∧ (1 < q → isB (.mk op2 v2 x2 gs2) = true) ∧ (2 < q → isB (.mk op3 v3 x3 gs3) = true) ∧ Below w7.heap.size w7 wr)) (fun i _ => 3 - (RowKit.intOf i).toNat)
    case atStart => exact ⟨0, rfl, by omega, Lib.hid ⟨fun h => absurd h (by omega), fun h => absurd h (by omega), fun h => absurd h (by omega), Below.refl _ _⟩⟩
    case round =>
      obtain ⟨q, rfl, hq, HM⟩ := hrel
      have HBR := Lib.hid (HB7.out.trans (HM.out.2.2.2.mono HB7.out.size))
      by_cases hqn : q < 3
      · have hqn' : (q : Int) < 3 := by omega
        obtain ⟨z0, z1, z2, z3, z4, z5, z6, z7, z8, z9, z10, z11⟩ := cells12_of ((HM.out.2.2.2.block T (Array.getElem?_eq_some_iff.1 HSX.out).1).trans HSX.out)
        have hq3 : q = 0 ∨ q = 1 ∨ q = 2 := by omega
        rcases hq3 with hq3 | hq3 | hq3
        · have c0 : wr.cell? ⟨T, q * 4, none⟩ = some (.int .i64 op1) := by rw [hq3]; exact z0
          have c1 : wr.cell? ⟨T, q * 4 + 1, none⟩ = some (.int .i64 v1) := by rw [hq3]; exact z1
          have c2 : wr.cell? ⟨T, q * 4 + 2, none⟩ = some (.int .i64 x1) := by rw [hq3]; exact z2
          have c3 : wr.cell? ⟨T, q * 4 + 3, none⟩ = some (.slice a1 n1 cap1) := by rw [hq3]; exact z3
          have HQ3 := Lib.hid hq3
          have hgb : Below wr.heap.size wr (wr.alloc (.cells #[.int .i64 op1, .int .i64 v1, .int .i64 x1, .slice a1 n1 cap1] 26)) := (Below.refl _ _).alloc (Nat.le_refl _) _
          have hgx := heap_alloc_new wr (.cells #[.int .i64 op1, .int .i64 v1, .int .i64 x1, .slice a1 n1 cap1] 26)
          have HBE := Lib.hid (HBR.out.trans (hgb.mono HBR.out.size))
          have HBL := Lib.hid (HM.out.2.2.2.trans (hgb.mono HM.out.2.2.2.size))
          clear hq3 z0 z1 z2 z3 z4 z5 z6 z7 z8 z9 z10 z11
          go_upto_region 9 with fail
          obtain ⟨wA, hwA⟩ : ∃ wA, wr.alloc (.cells #[.int .i64 op1, .int .i64 v1, .int .i64 x1, .slice a1 n1 cap1] 26) = wA := ⟨_, rfl⟩
          obtain ⟨A, hA⟩ : ∃ A, Hid (wr.heap.size = A) := ⟨_, Lib.hid rfl⟩
          rw [hwA] at hgx HBE HBL ⊢
          rw [hA.out] at hgx
          try rw [hA.out]
          obtain ⟨⟨e0, e1, e2, e3⟩, _⟩ := cells4_of hgx
          have hC := twin_calls _ op1 v1 x1 gs1 a1 n1 cap1 wA (Nat.le_refl _) (HF1.out.below HBE.out) (by have := HSZ1.out; omega)
          clear hgb hgx hwA c0 c1 c2 c3
          go_wp2_with fail
          refine hC.mono ?_
          rintro e wB ⟨ta, tc, rfl, hFR, b⟩
          have HB9 := Lib.hid (HBE.out.trans (b.mono HBE.out.size))
          have HL9 := Lib.hid (HBL.out.trans (b.mono HBL.out.size))
          have HFR := Lib.hid hFR
          clear hC b hFR e0 e1 e2 e3
          have hK := check_calls _ op1 v1 x1 gs1 ta n1 tc wB (Nat.le_refl _) HFR.out.here
          by_cases his : isB (.mk op1 v1 x1 gs1) = true
          · rw [show chkE (.mk op1 v1 x1 gs1) = 0 by unfold chkE; rw [if_pos his]] at hK
            have HIS := Lib.hid his
            clear his
            go_wp2_with fail
            refine hK.mono ?_
            rintro e wC ⟨rfl, g⟩
            have HL10 := Lib.hid (HL9.out.trans (g.below.mono HL9.out.size))
            clear hK g
            go_wp2_with fail
            go_roundw
            case rel => exact ⟨q + 1, by go_num, by omega, Lib.hid ⟨fun _ => HIS.out, fun h => absurd h (by have := HQ3.out; omega), fun h => absurd h (by have := HQ3.out; omega), HL10.out⟩⟩
            case measure => simp [RowKit.intOf]; omega
          · rw [show chkE (.mk op1 v1 x1 gs1) = 6 by unfold chkE; rw [if_neg his]] at hK
            clear his
            go_wp2_with fail
            refine hK.mono ?_
            rintro e wC ⟨rfl, g⟩
            have HB10 := Lib.hid (HB0.out.trans ((HB9.out.trans (g.below.mono HB9.out.size)).mono HB0.out.size))
            clear hK g
            go_wp2_with fail
            go_ret
            exact ⟨rfl, HB10.out⟩
        · have c0 : wr.cell? ⟨T, q * 4, none⟩ = some (.int .i64 op2) := by rw [hq3]; exact z4
          have c1 : wr.cell? ⟨T, q * 4 + 1, none⟩ = some (.int .i64 v2) := by rw [hq3]; exact z5
          have c2 : wr.cell? ⟨T, q * 4 + 2, none⟩ = some (.int .i64 x2) := by rw [hq3]; exact z6
          have c3 : wr.cell? ⟨T, q * 4 + 3, none⟩ = some (.slice a2 n2 cap2) := by rw [hq3]; exact z7
          have HQ3 := Lib.hid hq3
          have hgb : Below wr.heap.size wr (wr.alloc (.cells #[.int .i64 op2, .int .i64 v2, .int .i64 x2, .slice a2 n2 cap2] 26)) := (Below.refl _ _).alloc (Nat.le_refl _) _
          have hgx := heap_alloc_new wr (.cells #[.int .i64 op2, .int .i64 v2, .int .i64 x2, .slice a2 n2 cap2] 26)
          have HBE := Lib.hid (HBR.out.trans (hgb.mono HBR.out.size))
          have HBL := Lib.hid (HM.out.2.2.2.trans (hgb.mono HM.out.2.2.2.size))
          clear hq3 z0 z1 z2 z3 z4 z5 z6 z7 z8 z9 z10 z11
          go_upto_region 9 with fail
          obtain ⟨wA, hwA⟩ : ∃ wA, wr.alloc (.cells #[.int .i64 op2, .int .i64 v2, .int .i64 x2, .slice a2 n2 cap2] 26) = wA := ⟨_, rfl⟩
          obtain ⟨A, hA⟩ : ∃ A, Hid (wr.heap.size = A) := ⟨_, Lib.hid rfl⟩
          rw [hwA] at hgx HBE HBL ⊢
          rw [hA.out] at hgx
          try rw [hA.out]
          obtain ⟨⟨e0, e1, e2, e3⟩, _⟩ := cells4_of hgx
          have hC := twin_calls _ op2 v2 x2 gs2 a2 n2 cap2 wA (Nat.le_refl _) (HF2.out.below HBE.out) (by have := HSZ2.out; omega)
          clear hgb hgx hwA c0 c1 c2 c3
          go_wp2_with fail
          refine hC.mono ?_
          rintro e wB ⟨ta, tc, rfl, hFR, b⟩
          have HB9 := Lib.hid (HBE.out.trans (b.mono HBE.out.size))
          have HL9 := Lib.hid (HBL.out.trans (b.mono HBL.out.size))
          have HFR := Lib.hid hFR
          clear hC b hFR e0 e1 e2 e3
          have hK := check_calls _ op2 v2 x2 gs2 ta n2 tc wB (Nat.le_refl _) HFR.out.here
          by_cases his : isB (.mk op2 v2 x2 gs2) = true
          · rw [show chkE (.mk op2 v2 x2 gs2) = 0 by unfold chkE; rw [if_pos his]] at hK
            have HIS := Lib.hid his
            clear his
            go_wp2_with fail
            refine hK.mono ?_
            rintro e wC ⟨rfl, g⟩
            have HL10 := Lib.hid (HL9.out.trans (g.below.mono HL9.out.size))
            clear hK g
            go_wp2_with fail
            go_roundw
            case rel => exact ⟨q + 1, by go_num, by omega, Lib.hid ⟨fun _ => HM.out.1 (by have := HQ3.out; omega), fun _ => HIS.out, fun h => absurd h (by have := HQ3.out; omega), HL10.out⟩⟩
            case measure => simp [RowKit.intOf]; omega
          · rw [show chkE (.mk op2 v2 x2 gs2) = 6 by unfold chkE; rw [if_neg his]] at hK
            clear his
            go_wp2_with fail
            refine hK.mono ?_
            rintro e wC ⟨rfl, g⟩
            have HB10 := Lib.hid (HB0.out.trans ((HB9.out.trans (g.below.mono HB9.out.size)).mono HB0.out.size))
            clear hK g
            go_wp2_with fail
            go_ret
            exact ⟨rfl, HB10.out⟩
        · have c0 : wr.cell? ⟨T, q * 4, none⟩ = some (.int .i64 op3) := by rw [hq3]; exact z8
          have c1 : wr.cell? ⟨T, q * 4 + 1, none⟩ = some (.int .i64 v3) := by rw [hq3]; exact z9
          have c2 : wr.cell? ⟨T, q * 4 + 2, none⟩ = some (.int .i64 x3) := by rw [hq3]; exact z10
          have c3 : wr.cell? ⟨T, q * 4 + 3, none⟩ = some (.slice a3 n3 cap3) := by rw [hq3]; exact z11
          have HQ3 := Lib.hid hq3
          have hgb : Below wr.heap.size wr (wr.alloc (.cells #[.int .i64 op3, .int .i64 v3, .int .i64 x3, .slice a3 n3 cap3] 26)) := (Below.refl _ _).alloc (Nat.le_refl _) _
          have hgx := heap_alloc_new wr (.cells #[.int .i64 op3, .int .i64 v3, .int .i64 x3, .slice a3 n3 cap3] 26)
          have HBE := Lib.hid (HBR.out.trans (hgb.mono HBR.out.size))
          have HBL := Lib.hid (HM.out.2.2.2.trans (hgb.mono HM.out.2.2.2.size))
          clear hq3 z0 z1 z2 z3 z4 z5 z6 z7 z8 z9 z10 z11
          go_upto_region 9 with fail
          obtain ⟨wA, hwA⟩ : ∃ wA, wr.alloc (.cells #[.int .i64 op3, .int .i64 v3, .int .i64 x3, .slice a3 n3 cap3] 26) = wA := ⟨_, rfl⟩
          obtain ⟨A, hA⟩ : ∃ A, Hid (wr.heap.size = A) := ⟨_, Lib.hid rfl⟩
          rw [hwA] at hgx HBE HBL ⊢
          rw [hA.out] at hgx
          try rw [hA.out]
          obtain ⟨⟨e0, e1, e2, e3⟩, _⟩ := cells4_of hgx
          have hC := twin_calls _ op3 v3 x3 gs3 a3 n3 cap3 wA (Nat.le_refl _) (HF3.out.below HBE.out) (by have := HSZ3.out; omega)
          clear hgb hgx hwA c0 c1 c2 c3
          go_wp2_with fail
          refine hC.mono ?_
          rintro e wB ⟨ta, tc, rfl, hFR, b⟩
          have HB9 := Lib.hid (HBE.out.trans (b.mono HBE.out.size))
          have HL9 := Lib.hid (HBL.out.trans (b.mono HBL.out.size))
          have HFR := Lib.hid hFR
          clear hC b hFR e0 e1 e2 e3
          have hK := check_calls _ op3 v3 x3 gs3 ta n3 tc wB (Nat.le_refl _) HFR.out.here
          by_cases his : isB (.mk op3 v3 x3 gs3) = true
          · rw [show chkE (.mk op3 v3 x3 gs3) = 0 by unfold chkE; rw [if_pos his]] at hK
            have HIS := Lib.hid his
            clear his
            go_wp2_with fail
            refine hK.mono ?_
            rintro e wC ⟨rfl, g⟩
            have HL10 := Lib.hid (HL9.out.trans (g.below.mono HL9.out.size))
            clear hK g
            go_wp2_with fail
            go_roundw
            case rel => exact ⟨q + 1, by go_num, by omega, Lib.hid ⟨fun _ => HM.out.1 (by have := HQ3.out; omega), fun _ => HM.out.2.1 (by have := HQ3.out; omega), fun _ => HIS.out, HL10.out⟩⟩
            case measure => simp [RowKit.intOf]; omega
          · rw [show chkE (.mk op3 v3 x3 gs3) = 6 by unfold chkE; rw [if_neg his]] at hK
            clear his
            go_wp2_with fail
            refine hK.mono ?_
            rintro e wC ⟨rfl, g⟩
            have HB10 := Lib.hid (HB0.out.trans ((HB9.out.trans (g.below.mono HB9.out.size)).mono HB0.out.size))
            clear hK g
            go_wp2_with fail
            go_ret
            exact ⟨rfl, HB10.out⟩
      · obtain rfl : q = 3 := by omega
        have HI1 := Lib.hid (HM.out.1 (by omega))
        have HI2 := Lib.hid (HM.out.2.1 (by omega))
        have HI3 := Lib.hid (HM.out.2.2.1 (by omega))
        have HB8 := HBR
        have HQ8 := Lib.hid (HQ7.out.trans (HM.out.2.2.2.mono HQ7.out.size))
        obtain ⟨w8, hw8⟩ : ∃ w8, w8 = wr := ⟨_, rfl⟩
        subst hw8
        clear HM
        have HX1 := Lib.hid ((HQ8.out.block P1 (Array.getElem?_eq_some_iff.1 HP1.out).1).trans HP1.out)
        have HX2 := Lib.hid ((HQ8.out.block P2 (Array.getElem?_eq_some_iff.1 HP2.out).1).trans HP2.out)
        have HX3 := Lib.hid ((HQ8.out.block P3 (Array.getElem?_eq_some_iff.1 HP3.out).1).trans HP3.out)
        have HSX : Hid (∀ W, Below w8.heap.size w8 W → (W.cell? ⟨P1, 0, none⟩ = some (.int .i64 op1) ∧ W.cell? ⟨P1, 1, none⟩ = some (.int .i64 v1) ∧ W.cell? ⟨P1, 2, none⟩ = some (.int .i64 x1) ∧ W.cell? ⟨P1, 3, none⟩ = some (.slice a1 n1 cap1) ∧ W.cell? ⟨P2, 0, none⟩ = some (.int .i64 op2) ∧ W.cell? ⟨P2, 1, none⟩ = some (.int .i64 v2) ∧ W.cell? ⟨P2, 2, none⟩ = some (.int .i64 x2) ∧ W.cell? ⟨P2, 3, none⟩ = some (.slice a2 n2 cap2) ∧ W.cell? ⟨P3, 0, none⟩ = some (.int .i64 op3) ∧ W.cell? ⟨P3, 1, none⟩ = some (.int .i64 v3) ∧ W.cell? ⟨P3, 2, none⟩ = some (.int .i64 x3) ∧ W.cell? ⟨P3, 3, none⟩ = some (.slice a3 n3 cap3))) := Lib.hid fun W hb => by
          have y1 := (cells4_of ((hb.block P1 (Array.getElem?_eq_some_iff.1 HX1.out).1).trans HX1.out)).1
          have y2 := (cells4_of ((hb.block P2 (Array.getElem?_eq_some_iff.1 HX2.out).1).trans HX2.out)).1
          have y3 := (cells4_of ((hb.block P3 (Array.getElem?_eq_some_iff.1 HX3.out).1).trans HX3.out)).1
          exact ⟨y1.1, y1.2.1, y1.2.2.1, y1.2.2.2, y2.1, y2.2.1, y2.2.2.1, y2.2.2.2, y3⟩
        have HT1 : Hid (∀ V W, Below w8.heap.size w8 V → Below V.heap.size V W → Calls Try.prog 10 #[.agg #[.int .i64 op1, .int .i64 v1, .int .i64 x1, .slice a1 n1 cap1]] W fun e w' => ∃ a' cap', e = .returned (.agg #[.int .i64 op1, .int .i64 v1, .int .i64 x1, .slice a' n1 cap']) ∧ FitR W.heap.size w'.heap.size w' gs1 a' n1 cap' ∧ Below V.heap.size V w' ∧ Below W.heap.size W w' ∧ Below w8.heap.size w8 w' ∧ V.heap.size ≤ W.heap.size) := Lib.hid fun V W hv hw => (twin_calls _ op1 v1 x1 gs1 a1 n1 cap1 W (Nat.le_refl _) (HF1.out.below (HB8.out.trans ((hv.trans (hw.mono hv.size)).mono HB8.out.size))) (by have := HSZ1.out; omega)).mono (by rintro e w' ⟨ta, tc, rfl, hfr, b⟩; exact ⟨ta, tc, rfl, hfr, hw.trans (b.mono hw.size), b, (hv.trans (hw.mono hv.size)).trans (b.mono (Nat.le_trans hv.size hw.size)), hw.size⟩)
        have HN1 : Hid (∀ V W, Below w8.heap.size w8 V → Below V.heap.size V W → Calls Try.prog 21 #[.agg #[.int .i64 op1, .int .i64 v1, .int .i64 x1, .slice a1 n1 cap1]] W fun e w' => ∃ a' cap', e = .returned (.agg #[.int .i64 4, .int .i64 0, .int .i64 0, .slice a' 1 cap']) ∧ FitR W.heap.size w'.heap.size w' [.mk op1 v1 x1 gs1] a' 1 cap' ∧ Below V.heap.size V w' ∧ Below W.heap.size W w' ∧ Below w8.heap.size w8 w' ∧ V.heap.size ≤ W.heap.size) := Lib.hid fun V W hv hw => (notM_calls op1 v1 x1 gs1 a1 n1 cap1 W (HF1.out.below (HB8.out.trans ((hv.trans (hw.mono hv.size)).mono HB8.out.size))) (by have := HSZ1.out; omega)).mono (by rintro e w' ⟨ta, tc, rfl, hfr, b⟩; exact ⟨ta, tc, rfl, hfr, hw.trans (b.mono hw.size), b, (hv.trans (hw.mono hv.size)).trans (b.mono (Nat.le_trans hv.size hw.size)), hw.size⟩)
        have HT2 : Hid (∀ V W, Below w8.heap.size w8 V → Below V.heap.size V W → Calls Try.prog 10 #[.agg #[.int .i64 op2, .int .i64 v2, .int .i64 x2, .slice a2 n2 cap2]] W fun e w' => ∃ a' cap', e = .returned (.agg #[.int .i64 op2, .int .i64 v2, .int .i64 x2, .slice a' n2 cap']) ∧ FitR W.heap.size w'.heap.size w' gs2 a' n2 cap' ∧ Below V.heap.size V w' ∧ Below W.heap.size W w' ∧ Below w8.heap.size w8 w' ∧ V.heap.size ≤ W.heap.size) := Lib.hid fun V W hv hw => (twin_calls _ op2 v2 x2 gs2 a2 n2 cap2 W (Nat.le_refl _) (HF2.out.below (HB8.out.trans ((hv.trans (hw.mono hv.size)).mono HB8.out.size))) (by have := HSZ2.out; omega)).mono (by rintro e w' ⟨ta, tc, rfl, hfr, b⟩; exact ⟨ta, tc, rfl, hfr, hw.trans (b.mono hw.size), b, (hv.trans (hw.mono hv.size)).trans (b.mono (Nat.le_trans hv.size hw.size)), hw.size⟩)
        have HN2 : Hid (∀ V W, Below w8.heap.size w8 V → Below V.heap.size V W → Calls Try.prog 21 #[.agg #[.int .i64 op2, .int .i64 v2, .int .i64 x2, .slice a2 n2 cap2]] W fun e w' => ∃ a' cap', e = .returned (.agg #[.int .i64 4, .int .i64 0, .int .i64 0, .slice a' 1 cap']) ∧ FitR W.heap.size w'.heap.size w' [.mk op2 v2 x2 gs2] a' 1 cap' ∧ Below V.heap.size V w' ∧ Below W.heap.size W w' ∧ Below w8.heap.size w8 w' ∧ V.heap.size ≤ W.heap.size) := Lib.hid fun V W hv hw => (notM_calls op2 v2 x2 gs2 a2 n2 cap2 W (HF2.out.below (HB8.out.trans ((hv.trans (hw.mono hv.size)).mono HB8.out.size))) (by have := HSZ2.out; omega)).mono (by rintro e w' ⟨ta, tc, rfl, hfr, b⟩; exact ⟨ta, tc, rfl, hfr, hw.trans (b.mono hw.size), b, (hv.trans (hw.mono hv.size)).trans (b.mono (Nat.le_trans hv.size hw.size)), hw.size⟩)
        have HT3 : Hid (∀ V W, Below w8.heap.size w8 V → Below V.heap.size V W → Calls Try.prog 10 #[.agg #[.int .i64 op3, .int .i64 v3, .int .i64 x3, .slice a3 n3 cap3]] W fun e w' => ∃ a' cap', e = .returned (.agg #[.int .i64 op3, .int .i64 v3, .int .i64 x3, .slice a' n3 cap']) ∧ FitR W.heap.size w'.heap.size w' gs3 a' n3 cap' ∧ Below V.heap.size V w' ∧ Below W.heap.size W w' ∧ Below w8.heap.size w8 w' ∧ V.heap.size ≤ W.heap.size) := Lib.hid fun V W hv hw => (twin_calls _ op3 v3 x3 gs3 a3 n3 cap3 W (Nat.le_refl _) (HF3.out.below (HB8.out.trans ((hv.trans (hw.mono hv.size)).mono HB8.out.size))) (by have := HSZ3.out; omega)).mono (by rintro e w' ⟨ta, tc, rfl, hfr, b⟩; exact ⟨ta, tc, rfl, hfr, hw.trans (b.mono hw.size), b, (hv.trans (hw.mono hv.size)).trans (b.mono (Nat.le_trans hv.size hw.size)), hw.size⟩)
        have HN3 : Hid (∀ V W, Below w8.heap.size w8 V → Below V.heap.size V W → Calls Try.prog 21 #[.agg #[.int .i64 op3, .int .i64 v3, .int .i64 x3, .slice a3 n3 cap3]] W fun e w' => ∃ a' cap', e = .returned (.agg #[.int .i64 4, .int .i64 0, .int .i64 0, .slice a' 1 cap']) ∧ FitR W.heap.size w'.heap.size w' [.mk op3 v3 x3 gs3] a' 1 cap' ∧ Below V.heap.size V w' ∧ Below W.heap.size W w' ∧ Below w8.heap.size w8 w' ∧ V.heap.size ≤ W.heap.size) := Lib.hid fun V W hv hw => (notM_calls op3 v3 x3 gs3 a3 n3 cap3 W (HF3.out.below (HB8.out.trans ((hv.trans (hw.mono hv.size)).mono HB8.out.size))) (by have := HSZ3.out; omega)).mono (by rintro e w' ⟨ta, tc, rfl, hfr, b⟩; exact ⟨ta, tc, rfl, hfr, hw.trans (b.mono hw.size), b, (hv.trans (hw.mono hv.size)).trans (b.mono (Nat.le_trans hv.size hw.size)), hw.size⟩)
        clear HP1 HP2 HP3 HQ8 HQ7 HQ6 HQ5 HB7 HB6 HB5 HBR
        go_upto_region 12 with fail
        go_cut [9] from 58 to 65 (fun p9 wx => ∃ A b, p9 = .pointer (some ⟨A, 0, none⟩) ∧ Hid (wx.heap[A]? = some (.cells #[.int .i64 2, .int .i64 0, .int .i64 0, .slice (some ⟨b, 0, none⟩) 3 3] 26) ∧ FitS wx [.mk op1 v1 x1 gs1, .mk op2 v2 x2 gs2, .mk op3 v3 x3 gs3] (some ⟨b, 0, none⟩) 3 3 ∧ Below w8.heap.size w8 wx))
        case first =>
          (try clear hF1); (try clear hF2); (try clear hF3); (try clear hV); (try clear hVn); (try clear hVb); (try clear hb0); (try clear hbx); (try clear HF1); (try clear hid); (try clear HF2); (try clear HF3); (try clear HV1); (try clear hW1); (try clear HB0); (try clear HVN); (try clear HVL); (try clear HVB); (try clear hvb); (try clear hB); (try clear Hid); (try clear HBX); (try clear HB1); (try clear hG); (try clear hr1); (try clear HB2); (try clear hX); (try clear HBF); (try clear HSZ1); (try clear hr2); (try clear HB3); (try clear HSZ2); (try clear hr3); (try clear HB4); (try clear HSZ3); (try clear HX4); (try clear HLT4); (try clear hne4); (try clear hne5); (try clear hne6); (try clear h13a); (try clear h13b); (try clear h13c); (try clear H13A); (try clear H13B); (try clear H13C); (try clear HP); (try clear hcut); (try clear hw5); (try clear HP1); (try clear HP2); (try clear HP3); (try clear HB5); (try clear HQ5); (try clear HB6); (try clear HQ6); (try clear k0); (try clear k1); (try clear k2); (try clear k3); (try clear hsb); (try clear hsx); (try clear hw7); (try clear hT); (try clear HB7); (try clear HQ7); (try clear hq); (try clear HM); (try clear hrel); (try clear HBR); (try clear hqn); (try clear hq3); (try clear HQ3); (try clear hgb); (try clear hgx); (try clear HBE); (try clear HBL); (try clear hwA); (try clear hA); (try clear e0); (try clear e1); (try clear e2); (try clear e3); (try clear hC); (try clear hFR); (try clear HL9); (try clear HFR); (try clear hK); (try clear here); (try clear his); (try clear HIS); (try clear HL10); (try clear HI1); (try clear HI2); (try clear HI3); (try clear HB8); (try clear HQ8); (try clear hw8); (try clear HX1); (try clear HX2); (try clear HX3); (try clear y1); (try clear y2); (try clear y3); (try clear hfr)
          have cbase : Below w8.heap.size w8 w8 := Below.refl w8.heap.size w8
          have ebase : w8.heap.size ≤ w8.heap.size := cbase.size
          go_region_held3 (fun W => W.cell? ⟨P1, 0, none⟩ = some (.int .i64 op1) ∧ W.cell? ⟨P1, 1, none⟩ = some (.int .i64 v1) ∧ W.cell? ⟨P1, 2, none⟩ = some (.int .i64 x1) ∧ W.cell? ⟨P1, 3, none⟩ = some (.slice a1 n1 cap1) ∧ W.cell? ⟨P2, 0, none⟩ = some (.int .i64 op2) ∧ W.cell? ⟨P2, 1, none⟩ = some (.int .i64 v2) ∧ W.cell? ⟨P2, 2, none⟩ = some (.int .i64 x2) ∧ W.cell? ⟨P2, 3, none⟩ = some (.slice a2 n2 cap2) ∧ W.cell? ⟨P3, 0, none⟩ = some (.int .i64 op3) ∧ W.cell? ⟨P3, 1, none⟩ = some (.int .i64 v3) ∧ W.cell? ⟨P3, 2, none⟩ = some (.int .i64 x3) ∧ W.cell? ⟨P3, 3, none⟩ = some (.slice a3 n3 cap3)) (((with_reducible apply HSX.out); (repeat' (first | with_reducible assumption | with_reducible apply below_set4 | with_reducible apply below_al | with_reducible apply Below.drew | with_reducible apply Below.refl | with_reducible apply Nat.le_refl | with_reducible apply Nat.le_succ_of_le)))) (first
            | (go_at_call_of 10 (Value.int .i64 op3); refine (HT3.out wb _ (cb) (by first | exact Below.refl wb.heap.size wb | exact (Below.refl wb.heap.size wb).drew | exact (Below.refl wb.heap.size wb).alloc (Below.refl wb.heap.size wb).size _ | exact ((Below.refl wb.heap.size wb).alloc (Below.refl wb.heap.size wb).size _).drew | exact ((Below.refl wb.heap.size wb).alloc (Below.refl wb.heap.size wb).size _).alloc ((Below.refl wb.heap.size wb).alloc (Below.refl wb.heap.size wb).size _).size _ | exact (((Below.refl wb.heap.size wb).alloc (Below.refl wb.heap.size wb).size _).alloc ((Below.refl wb.heap.size wb).alloc (Below.refl wb.heap.size wb).size _).size _).drew)).mono ?_; rintro e wc ⟨tc, sc, rfl, fc, vc, bc, cc, mc⟩; (try simp only [World.size_alloc] at fc mc); have ec := cc.size; have nc := bc.size; (try simp only [World.size_alloc] at nc); have fa := fa.keeps (Keeps.of_below vc fa.top); have fb := fb.keeps (Keeps.of_below vc fb.top); (try have zc := (vc.block _ (Array.getElem?_eq_some_iff.1 zb).1).trans zb); (try (with_reducible have zc : wc.heap[wb.heap.size]? = some (.cells #[.int .i64 0, .int .i64 0, .int .i64 0, .slice none 0 0] 26) := (bc.block _ (alloc_lt _ _)).trans (heap_alloc_new _ _))); (try have qc := fun o => cells4_of ((heap_alloc_old wc o (Array.getElem?_eq_some_iff.1 zc).1).trans zc)); (try have qc0 := fun o => (qc o).1.1); (try have qc1 := fun o => (qc o).1.2.1); (try have qc2 := fun o => (qc o).1.2.2.1); (try have qc3 := fun o => (qc o).1.2.2.2); (try have qc4 := fun o => (qc o).2.1); (try have qc5 := fun o => (qc o).2.2.1); (try have qc6 := fun o => (qc o).2.2.2.1); (try have qc7 := fun o => (qc o).2.2.2.2); (try clear qc))
            | (go_at_call_of 10 (Value.int .i64 op2); refine (HT2.out wa _ (ca) (by first | exact Below.refl wa.heap.size wa | exact (Below.refl wa.heap.size wa).drew | exact (Below.refl wa.heap.size wa).alloc (Below.refl wa.heap.size wa).size _ | exact ((Below.refl wa.heap.size wa).alloc (Below.refl wa.heap.size wa).size _).drew | exact ((Below.refl wa.heap.size wa).alloc (Below.refl wa.heap.size wa).size _).alloc ((Below.refl wa.heap.size wa).alloc (Below.refl wa.heap.size wa).size _).size _ | exact (((Below.refl wa.heap.size wa).alloc (Below.refl wa.heap.size wa).size _).alloc ((Below.refl wa.heap.size wa).alloc (Below.refl wa.heap.size wa).size _).size _).drew)).mono ?_; rintro e wb ⟨tb, sb, rfl, fb, vb, bb, cb, mb⟩; (try simp only [World.size_alloc] at fb mb); have eb := cb.size; have nb := bb.size; (try simp only [World.size_alloc] at nb); have fa := fa.keeps (Keeps.of_below vb fa.top); (try have zb := (vb.block _ (Array.getElem?_eq_some_iff.1 za).1).trans za); (try (with_reducible have zb : wb.heap[wa.heap.size]? = some (.cells #[.int .i64 0, .int .i64 0, .int .i64 0, .slice none 0 0] 26) := (bb.block _ (alloc_lt _ _)).trans (heap_alloc_new _ _))))
            | (go_at_call_of 10 (Value.int .i64 op1); refine (HT1.out w8 _ (Below.refl w8.heap.size w8) (by first | exact Below.refl w8.heap.size w8 | exact (Below.refl w8.heap.size w8).drew | exact (Below.refl w8.heap.size w8).alloc (Below.refl w8.heap.size w8).size _ | exact ((Below.refl w8.heap.size w8).alloc (Below.refl w8.heap.size w8).size _).drew | exact ((Below.refl w8.heap.size w8).alloc (Below.refl w8.heap.size w8).size _).alloc ((Below.refl w8.heap.size w8).alloc (Below.refl w8.heap.size w8).size _).size _ | exact (((Below.refl w8.heap.size w8).alloc (Below.refl w8.heap.size w8).size _).alloc ((Below.refl w8.heap.size w8).alloc (Below.refl w8.heap.size w8).size _).size _).drew)).mono ?_; rintro e wa ⟨ta, sa, rfl, fa, va, ba, ca, ma⟩; (try simp only [World.size_alloc, World.drew] at fa ma); have ea := ca.size; have na := ba.size; (try simp only [World.size_alloc, World.drew] at na); (try (with_reducible have za : wa.heap[w8.heap.size]? = some (.cells #[.int .i64 0, .int .i64 0, .int .i64 0, .slice none 0 0] 26) := (ba.block _ (drew_lt _ _)).trans (drew_new _ _))))
            )
          all_goals
            go_wp2_with fail
            go_meet
            case rel =>
              have l0 : w8.heap.size ≤ wa.heap.size := va.size
              have l1 : wa.heap.size ≤ wb.heap.size := vb.size
              have l2 : wb.heap.size ≤ wc.heap.size := vc.size
              have oa := fa.top
              have ob := fb.top
              have oc := fc.top
              have hm3 : 3 ≤ maxLen := by decide
              first
                | ((refine ⟨_, wc.heap.size, rfl, ?h⟩); (with_reducible apply endA (cs := [(op1, v1, x1, (ta, n1, sa)), (op2, v2, x2, (tb, n2, sb)), (op3, v3, x3, (tc, n3, sc))])); (case hc => exact ((va.trans (vb.mono (va).size)).trans (vc.mono ((va.trans (vb.mono (va).size))).size))); (case hb => (first | rfl | (simp; done))); (case ha => rfl); (case hn => rfl); (case hm => exact hm3); (case hA => (first | rfl | (simp; done))); (case hk => exact twL3 (tw_of fa ma noOwn _ _ _) (tw_of fb (Nat.le_trans va.size mb) noOwn _ _ _) (tw_of fc (Nat.le_trans (Nat.le_trans va.size vb.size) mc) noOwn _ _ _)))
                | ((refine ⟨_, wc.heap.size + 1, rfl, ?h⟩); (with_reducible apply endB (cs := [(op1, v1, x1, (ta, n1, sa)), (op2, v2, x2, (tb, n2, sb)), (op3, v3, x3, (tc, n3, sc))])); (case hc => exact (below_new ((va.trans (vb.mono (va).size)).trans (vc.mono ((va.trans (vb.mono (va).size))).size)) (Nat.le_refl _) _)); (case hb => (first | rfl | (simp; done))); (case ha => rfl); (case hn => rfl); (case hm => exact hm3); (case hz => exact heap_alloc_new _ _); (case hk => exact twL3 (tw_of (fa.alloc' _) ma noOwn _ _ _) (tw_of (fb.alloc' _) (Nat.le_trans va.size mb) noOwn _ _ _) (tw_of (fc.alloc' _) (Nat.le_trans (Nat.le_trans va.size vb.size) mc) noOwn _ _ _)))
                | ((refine ⟨_, wc.heap.size, rfl, ?h⟩); (with_reducible apply endC (cs := [(op1, v1, x1, (ta, n1, sa)), (op2, v2, x2, (tb, n2, sb)), (op3, v3, x3, (tc, n3, sc))])); (case hc => exact ((va.trans (vb.mono (va).size)).trans (vc.mono ((va.trans (vb.mono (va).size))).size))); (case hb => (first | rfl | (simp; done))); (case ha => rfl); (case hn => rfl); (case hm => exact hm3); (case hz => exact zc); (case hA => omega); (case hk => (refine twL3 (tw_of fa ma ?_ _ _ _) (tw_of fb (Nat.le_trans va.size mb) ?_ _ _ _) (tw_of fc (Nat.le_trans (Nat.le_trans va.size vb.size) mc) ?_ _ _ _)) <;> (intro j e; cases e; omega)))
        case rest =>
        obtain ⟨A9, b9, rfl, HC9⟩ := hcut
        obtain ⟨w9, hw9⟩ : ∃ w9, w9 = wc := ⟨_, rfl⟩
        subst hw9
        have HB9 := Lib.hid HC9.out.2.2
        go_upto_region 13 with fail
        go_cut [10] from 66 to 77 (fun p9 wx => ∃ A b, p9 = .pointer (some ⟨A, 0, none⟩) ∧ Hid (wx.heap[A]? = some (.cells #[.int .i64 2, .int .i64 0, .int .i64 0, .slice (some ⟨b, 0, none⟩) 3 3] 26) ∧ FitS wx [.mk 2 0 0 [.mk op3 v3 x3 gs3, .mk op1 v1 x1 gs1], .mk op2 v2 x2 gs2, .mk op1 v1 x1 gs1] (some ⟨b, 0, none⟩) 3 3 ∧ Below w9.heap.size w9 wx))
        case first =>
          (try clear hF1); (try clear hF2); (try clear hF3); (try clear hV); (try clear hVn); (try clear hVb); (try clear hb0); (try clear hbx); (try clear HF1); (try clear hid); (try clear HF2); (try clear HF3); (try clear HV1); (try clear hW1); (try clear HB0); (try clear HVN); (try clear HVL); (try clear HVB); (try clear hvb); (try clear hB); (try clear Hid); (try clear HBX); (try clear HB1); (try clear hG); (try clear hr1); (try clear HB2); (try clear hX); (try clear HBF); (try clear HSZ1); (try clear hr2); (try clear HB3); (try clear HSZ2); (try clear hr3); (try clear HB4); (try clear HSZ3); (try clear HX4); (try clear HLT4); (try clear hne4); (try clear hne5); (try clear hne6); (try clear h13a); (try clear h13b); (try clear h13c); (try clear H13A); (try clear H13B); (try clear H13C); (try clear HP); (try clear hcut); (try clear hw5); (try clear HP1); (try clear HP2); (try clear HP3); (try clear HB5); (try clear HQ5); (try clear HB6); (try clear HQ6); (try clear k0); (try clear k1); (try clear k2); (try clear k3); (try clear hsb); (try clear hsx); (try clear hw7); (try clear hT); (try clear HB7); (try clear HQ7); (try clear hq); (try clear HM); (try clear hrel); (try clear HBR); (try clear hqn); (try clear hq3); (try clear HQ3); (try clear hgb); (try clear hgx); (try clear HBE); (try clear HBL); (try clear hwA); (try clear hA); (try clear e0); (try clear e1); (try clear e2); (try clear e3); (try clear hC); (try clear hFR); (try clear HL9); (try clear HFR); (try clear hK); (try clear here); (try clear his); (try clear HIS); (try clear HL10); (try clear HI1); (try clear HI2); (try clear HI3); (try clear HB8); (try clear HQ8); (try clear hw8); (try clear HX1); (try clear HX2); (try clear HX3); (try clear y1); (try clear y2); (try clear y3); (try clear hfr); (try clear ebase); (try clear drew); (try clear ec); (try clear keeps); (try clear eb); (try clear ea); (try clear hm3); (try clear decide); (try clear endA); (try clear hc); (try clear done); (try clear ha); (try clear hn); (try clear hm); (try clear hk); (try clear endB); (try clear hz); (try clear endC); (try clear HC9); (try clear hw9)
          have cbase : Below w8.heap.size w8 w9 := HB9.out
          have ebase : w8.heap.size ≤ w9.heap.size := cbase.size
          go_region_held3 (fun W => W.cell? ⟨P1, 0, none⟩ = some (.int .i64 op1) ∧ W.cell? ⟨P1, 1, none⟩ = some (.int .i64 v1) ∧ W.cell? ⟨P1, 2, none⟩ = some (.int .i64 x1) ∧ W.cell? ⟨P1, 3, none⟩ = some (.slice a1 n1 cap1) ∧ W.cell? ⟨P2, 0, none⟩ = some (.int .i64 op2) ∧ W.cell? ⟨P2, 1, none⟩ = some (.int .i64 v2) ∧ W.cell? ⟨P2, 2, none⟩ = some (.int .i64 x2) ∧ W.cell? ⟨P2, 3, none⟩ = some (.slice a2 n2 cap2) ∧ W.cell? ⟨P3, 0, none⟩ = some (.int .i64 op3) ∧ W.cell? ⟨P3, 1, none⟩ = some (.int .i64 v3) ∧ W.cell? ⟨P3, 2, none⟩ = some (.int .i64 x3) ∧ W.cell? ⟨P3, 3, none⟩ = some (.slice a3 n3 cap3)) (((with_reducible apply HSX.out); (repeat' (first | with_reducible assumption | with_reducible apply below_set4 | with_reducible apply below_al | with_reducible apply Below.drew | with_reducible apply Below.refl | with_reducible apply Nat.le_refl | with_reducible apply Nat.le_succ_of_le)))) (first
            | (go_at_call_of 10 (Value.int .i64 op1); refine (HT1.out wc _ (cc) (by first | exact Below.refl wc.heap.size wc | exact (Below.refl wc.heap.size wc).drew | exact (Below.refl wc.heap.size wc).alloc (Below.refl wc.heap.size wc).size _ | exact ((Below.refl wc.heap.size wc).alloc (Below.refl wc.heap.size wc).size _).drew | exact ((Below.refl wc.heap.size wc).alloc (Below.refl wc.heap.size wc).size _).alloc ((Below.refl wc.heap.size wc).alloc (Below.refl wc.heap.size wc).size _).size _ | exact (((Below.refl wc.heap.size wc).alloc (Below.refl wc.heap.size wc).size _).alloc ((Below.refl wc.heap.size wc).alloc (Below.refl wc.heap.size wc).size _).size _).drew)).mono ?_; rintro e wd ⟨td, sd, rfl, fd, vd, bd, cd, md⟩; (try simp only [World.size_alloc] at fd md); have ed := cd.size; have nd := bd.size; (try simp only [World.size_alloc] at nd); have fa := fa.keeps (Keeps.of_below vd fa.top); have fb := fb.keeps (Keeps.of_below vd fb.top); have fc := fc.keeps (Keeps.of_below vd fc.top); (try have zd := (vd.block _ (Array.getElem?_eq_some_iff.1 zc).1).trans zc); (try (with_reducible have zd : wd.heap[wc.heap.size]? = some (.cells #[.int .i64 0, .int .i64 0, .int .i64 0, .slice none 0 0] 26) := (bd.block _ (alloc_lt _ _)).trans (heap_alloc_new _ _))); (try (with_reducible have zd : wd.heap[wc.heap.size]? = some (.cells #[.int .i64 0, .int .i64 0, .int .i64 0, .slice none 0 0] 26) := (bd.block _ (alloc_lt2 _ _ _)).trans (alloc_fst _ _ _))); (try (with_reducible have zd : wd.heap[wc.heap.size + 1]? = some (.cells #[.int .i64 0, .int .i64 0, .int .i64 0, .slice none 0 0] 26) := (bd.block _ (alloc_lt3 _ _ _)).trans (alloc_snd _ _ _))); (try have yd := (vd.block _ (Array.getElem?_eq_some_iff.1 yc).1).trans yc); (try (with_reducible have yd : wd.heap[wc.heap.size]? = some (.cells #[.int .i64 op3, .int .i64 v3, .int .i64 x3, .slice ta n3 sa, .int .i64 op1, .int .i64 v1, .int .i64 x1, .slice tb n1 sb] 26) := (bd.block _ (alloc_lt _ _)).trans (heap_alloc_new _ _))); (try (with_reducible have yd : wd.heap[wc.heap.size]? = some (.cells #[.int .i64 op3, .int .i64 v3, .int .i64 x3, .slice ta n3 sa, .int .i64 op1, .int .i64 v1, .int .i64 x1, .slice tb n1 sb] 26) := (bd.block _ (alloc_lt2 _ _ _)).trans (alloc_fst _ _ _))); (try (with_reducible have yd : wd.heap[wc.heap.size + 1]? = some (.cells #[.int .i64 op3, .int .i64 v3, .int .i64 x3, .slice ta n3 sa, .int .i64 op1, .int .i64 v1, .int .i64 x1, .slice tb n1 sb] 26) := (bd.block _ (alloc_lt3 _ _ _)).trans (alloc_snd _ _ _))); (try have qd := fun o => cells4_of ((heap_alloc_old wd o (Array.getElem?_eq_some_iff.1 zd).1).trans zd)); (try have qd0 := fun o => (qd o).1.1); (try have qd1 := fun o => (qd o).1.2.1); (try have qd2 := fun o => (qd o).1.2.2.1); (try have qd3 := fun o => (qd o).1.2.2.2); (try have qd4 := fun o => (qd o).2.1); (try have qd5 := fun o => (qd o).2.2.1); (try have qd6 := fun o => (qd o).2.2.2.1); (try have qd7 := fun o => (qd o).2.2.2.2); (try clear qd); (try have rd := fun o p => cells4_of ((heap_alloc_old (wd.alloc o) p (Nat.lt_trans (Array.getElem?_eq_some_iff.1 zd).1 (alloc_lt wd o))).trans ((heap_alloc_old wd o (Array.getElem?_eq_some_iff.1 zd).1).trans zd))); (try have rd0 := fun o p => (rd o p).1.1); (try have rd1 := fun o p => (rd o p).1.2.1); (try have rd2 := fun o p => (rd o p).1.2.2.1); (try have rd3 := fun o p => (rd o p).1.2.2.2); (try have rd4 := fun o p => (rd o p).2.1); (try have rd5 := fun o p => (rd o p).2.2.1); (try have rd6 := fun o p => (rd o p).2.2.2.1); (try have rd7 := fun o p => (rd o p).2.2.2.2); (try clear rd))
            | (go_at_call_of 10 (Value.int .i64 op2); refine (HT2.out wb _ (cb) (by first | exact Below.refl wb.heap.size wb | exact (Below.refl wb.heap.size wb).drew | exact (Below.refl wb.heap.size wb).alloc (Below.refl wb.heap.size wb).size _ | exact ((Below.refl wb.heap.size wb).alloc (Below.refl wb.heap.size wb).size _).drew | exact ((Below.refl wb.heap.size wb).alloc (Below.refl wb.heap.size wb).size _).alloc ((Below.refl wb.heap.size wb).alloc (Below.refl wb.heap.size wb).size _).size _ | exact (((Below.refl wb.heap.size wb).alloc (Below.refl wb.heap.size wb).size _).alloc ((Below.refl wb.heap.size wb).alloc (Below.refl wb.heap.size wb).size _).size _).drew)).mono ?_; rintro e wc ⟨tc, sc, rfl, fc, vc, bc, cc, mc⟩; (try simp only [World.size_alloc] at fc mc); have ec := cc.size; have nc := bc.size; (try simp only [World.size_alloc] at nc); have fa := fa.keeps (Keeps.of_below vc fa.top); have fb := fb.keeps (Keeps.of_below vc fb.top); (try have zc := (vc.block _ (Array.getElem?_eq_some_iff.1 zb).1).trans zb); (try (with_reducible have zc : wc.heap[wb.heap.size]? = some (.cells #[.int .i64 0, .int .i64 0, .int .i64 0, .slice none 0 0] 26) := (bc.block _ (alloc_lt _ _)).trans (heap_alloc_new _ _))); (try (with_reducible have zc : wc.heap[wb.heap.size]? = some (.cells #[.int .i64 0, .int .i64 0, .int .i64 0, .slice none 0 0] 26) := (bc.block _ (alloc_lt2 _ _ _)).trans (alloc_fst _ _ _))); (try (with_reducible have zc : wc.heap[wb.heap.size + 1]? = some (.cells #[.int .i64 0, .int .i64 0, .int .i64 0, .slice none 0 0] 26) := (bc.block _ (alloc_lt3 _ _ _)).trans (alloc_snd _ _ _))); (try (with_reducible have yc : wc.heap[wb.heap.size]? = some (.cells #[.int .i64 op3, .int .i64 v3, .int .i64 x3, .slice ta n3 sa, .int .i64 op1, .int .i64 v1, .int .i64 x1, .slice tb n1 sb] 26) := (bc.block _ (alloc_lt _ _)).trans (heap_alloc_new _ _))); (try (with_reducible have yc : wc.heap[wb.heap.size]? = some (.cells #[.int .i64 op3, .int .i64 v3, .int .i64 x3, .slice ta n3 sa, .int .i64 op1, .int .i64 v1, .int .i64 x1, .slice tb n1 sb] 26) := (bc.block _ (alloc_lt2 _ _ _)).trans (alloc_fst _ _ _))); (try (with_reducible have yc : wc.heap[wb.heap.size + 1]? = some (.cells #[.int .i64 op3, .int .i64 v3, .int .i64 x3, .slice ta n3 sa, .int .i64 op1, .int .i64 v1, .int .i64 x1, .slice tb n1 sb] 26) := (bc.block _ (alloc_lt3 _ _ _)).trans (alloc_snd _ _ _))))
            | (go_at_call_of 10 (Value.int .i64 op1); refine (HT1.out wa _ (ca) (by first | exact Below.refl wa.heap.size wa | exact (Below.refl wa.heap.size wa).drew | exact (Below.refl wa.heap.size wa).alloc (Below.refl wa.heap.size wa).size _ | exact ((Below.refl wa.heap.size wa).alloc (Below.refl wa.heap.size wa).size _).drew | exact ((Below.refl wa.heap.size wa).alloc (Below.refl wa.heap.size wa).size _).alloc ((Below.refl wa.heap.size wa).alloc (Below.refl wa.heap.size wa).size _).size _ | exact (((Below.refl wa.heap.size wa).alloc (Below.refl wa.heap.size wa).size _).alloc ((Below.refl wa.heap.size wa).alloc (Below.refl wa.heap.size wa).size _).size _).drew)).mono ?_; rintro e wb ⟨tb, sb, rfl, fb, vb, bb, cb, mb⟩; (try simp only [World.size_alloc] at fb mb); have eb := cb.size; have nb := bb.size; (try simp only [World.size_alloc] at nb); have fa := fa.keeps (Keeps.of_below vb fa.top); (try have zb := (vb.block _ (Array.getElem?_eq_some_iff.1 za).1).trans za); (try (with_reducible have zb : wb.heap[wa.heap.size]? = some (.cells #[.int .i64 0, .int .i64 0, .int .i64 0, .slice none 0 0] 26) := (bb.block _ (alloc_lt _ _)).trans (heap_alloc_new _ _))))
            | (go_at_call_of 10 (Value.int .i64 op3); refine (HT3.out w9 _ (HB9.out) (by first | exact Below.refl w9.heap.size w9 | exact (Below.refl w9.heap.size w9).drew | exact (Below.refl w9.heap.size w9).alloc (Below.refl w9.heap.size w9).size _ | exact ((Below.refl w9.heap.size w9).alloc (Below.refl w9.heap.size w9).size _).drew | exact ((Below.refl w9.heap.size w9).alloc (Below.refl w9.heap.size w9).size _).alloc ((Below.refl w9.heap.size w9).alloc (Below.refl w9.heap.size w9).size _).size _ | exact (((Below.refl w9.heap.size w9).alloc (Below.refl w9.heap.size w9).size _).alloc ((Below.refl w9.heap.size w9).alloc (Below.refl w9.heap.size w9).size _).size _).drew)).mono ?_; rintro e wa ⟨ta, sa, rfl, fa, va, ba, ca, ma⟩; (try simp only [World.size_alloc, World.drew] at fa ma); have ea := ca.size; have na := ba.size; (try simp only [World.size_alloc, World.drew] at na); (try (with_reducible have za : wa.heap[w9.heap.size]? = some (.cells #[.int .i64 0, .int .i64 0, .int .i64 0, .slice none 0 0] 26) := (ba.block _ (drew_lt _ _)).trans (drew_new _ _))))
            )
          all_goals
            go_wp2_with fail
            go_meet
            case rel =>
              have l0 : w9.heap.size ≤ wa.heap.size := va.size
              have l1 : wa.heap.size ≤ wb.heap.size := vb.size
              have l2 : wb.heap.size ≤ wc.heap.size := vc.size
              have l3 : wc.heap.size ≤ wd.heap.size := vd.size
              have oa := fa.top
              have ob := fb.top
              have oc := fc.top
              have od := fd.top
              have hm2 : 2 ≤ maxLen := by decide
              (try have zl := (Array.getElem?_eq_some_iff.1 zd).1)
              (try have yl := (Array.getElem?_eq_some_iff.1 yd).1)
              have hm3 : 3 ≤ maxLen := by decide
              first
                | ((refine ⟨_, wd.heap.size, rfl, ?h⟩); (with_reducible apply endC2 (cs2 := [(op3, v3, x3, (ta, n3, sa)), (op1, v1, x1, (tb, n1, sb))]) (cs3 := [(op2, v2, x2, (tc, n2, sc)), (op1, v1, x1, (td, n1, sd))])); (case hy => exact yd); (case hc => exact (((va.trans (vb.mono (va).size)).trans (vc.mono ((va.trans (vb.mono (va).size))).size)).trans (vd.mono (((va.trans (vb.mono (va).size)).trans (vc.mono ((va.trans (vb.mono (va).size))).size))).size))); (case hb => (first | rfl | (simp; done))); (case ha2 => rfl); (case hn2 => rfl); (case hm2 => exact hm2); (case hb1 => (first | omega | (simp; omega))); (case ha => rfl); (case hn => rfl); (case hm => exact hm3); (case hz => exact zd); (case hA => (first | omega | (simp; omega))); (case hne => (first | omega | (simp; omega))); (case hk2 => (refine twL2 (tw_of fa ma ?_ _ _ _) (tw_of fb (Nat.le_trans va.size mb) ?_ _ _ _)) <;> (intro j e; cases e; omega)); (case hk3 => (refine twL2 (tw_of fc (Nat.le_trans (Nat.le_trans va.size vb.size) mc) ?_ _ _ _) (tw_of fd (Nat.le_trans (Nat.le_trans (Nat.le_trans va.size vb.size) vc.size) md) ?_ _ _ _)) <;> (intro j e; cases e; omega)))
                | ((refine ⟨_, wd.heap.size + 1, rfl, ?h⟩); (with_reducible apply endC2 (cs2 := [(op3, v3, x3, (ta, n3, sa)), (op1, v1, x1, (tb, n1, sb))]) (cs3 := [(op2, v2, x2, (tc, n2, sc)), (op1, v1, x1, (td, n1, sd))])); (case hy => exact heap_alloc_new _ _); (case hc => exact (below_new (((va.trans (vb.mono (va).size)).trans (vc.mono ((va.trans (vb.mono (va).size))).size)).trans (vd.mono (((va.trans (vb.mono (va).size)).trans (vc.mono ((va.trans (vb.mono (va).size))).size))).size)) (Nat.le_refl _) _)); (case hb => (first | rfl | (simp; done))); (case ha2 => rfl); (case hn2 => rfl); (case hm2 => exact hm2); (case hb1 => (first | omega | (simp; omega))); (case ha => rfl); (case hn => rfl); (case hm => exact hm3); (case hz => exact (heap_alloc_old _ _ zl).trans zd); (case hA => (first | omega | (simp; omega))); (case hne => (first | omega | (simp; omega))); (case hk2 => (refine twL2 (tw_of (fa.alloc' _) ma ?_ _ _ _) (tw_of (fb.alloc' _) (Nat.le_trans va.size mb) ?_ _ _ _)) <;> (intro j e; cases e; omega)); (case hk3 => (refine twL2 (tw_of (fc.alloc' _) (Nat.le_trans (Nat.le_trans va.size vb.size) mc) ?_ _ _ _) (tw_of (fd.alloc' _) (Nat.le_trans (Nat.le_trans (Nat.le_trans va.size vb.size) vc.size) md) ?_ _ _ _)) <;> (intro j e; cases e; omega)))
                | ((refine ⟨_, wd.heap.size, rfl, ?h⟩); (with_reducible apply endA2 (cs2 := [(op3, v3, x3, (ta, n3, sa)), (op1, v1, x1, (tb, n1, sb))]) (cs3 := [(op2, v2, x2, (tc, n2, sc)), (op1, v1, x1, (td, n1, sd))])); (case hy => exact yd); (case hc => exact (((va.trans (vb.mono (va).size)).trans (vc.mono ((va.trans (vb.mono (va).size))).size)).trans (vd.mono (((va.trans (vb.mono (va).size)).trans (vc.mono ((va.trans (vb.mono (va).size))).size))).size))); (case hb => (first | rfl | (simp; done))); (case ha2 => rfl); (case hn2 => rfl); (case hm2 => exact hm2); (case hb1 => (first | omega | (simp; omega))); (case ha => rfl); (case hn => rfl); (case hm => exact hm3); (case hA => (first | rfl | (simp; done))); (case hk2 => exact twL2 (tw_of fa ma noOwn _ _ _) (tw_of fb (Nat.le_trans va.size mb) noOwn _ _ _)); (case hk3 => exact twL2 (tw_of fc (Nat.le_trans (Nat.le_trans va.size vb.size) mc) noOwn _ _ _) (tw_of fd (Nat.le_trans (Nat.le_trans (Nat.le_trans va.size vb.size) vc.size) md) noOwn _ _ _)))
                | ((refine ⟨_, wd.heap.size + 1, rfl, ?h⟩); (with_reducible apply endB2 (cs2 := [(op3, v3, x3, (ta, n3, sa)), (op1, v1, x1, (tb, n1, sb))]) (cs3 := [(op2, v2, x2, (tc, n2, sc)), (op1, v1, x1, (td, n1, sd))])); (case hy => exact (heap_alloc_old _ _ yl).trans yd); (case hc => exact (below_new (((va.trans (vb.mono (va).size)).trans (vc.mono ((va.trans (vb.mono (va).size))).size)).trans (vd.mono (((va.trans (vb.mono (va).size)).trans (vc.mono ((va.trans (vb.mono (va).size))).size))).size)) (Nat.le_refl _) _)); (case hb => (first | rfl | (simp; done))); (case ha2 => rfl); (case hn2 => rfl); (case hm2 => exact hm2); (case hb1 => (first | omega | (simp; omega))); (case ha => rfl); (case hn => rfl); (case hm => exact hm3); (case hz => exact heap_alloc_new _ _); (case hk2 => exact twL2 (tw_of (fa.alloc' _) ma noOwn _ _ _) (tw_of (fb.alloc' _) (Nat.le_trans va.size mb) noOwn _ _ _)); (case hk3 => exact twL2 (tw_of (fc.alloc' _) (Nat.le_trans (Nat.le_trans va.size vb.size) mc) noOwn _ _ _) (tw_of (fd.alloc' _) (Nat.le_trans (Nat.le_trans (Nat.le_trans va.size vb.size) vc.size) md) noOwn _ _ _)))
                | ((refine ⟨_, wd.heap.size + 1, rfl, ?h⟩); (with_reducible apply endA2 (cs2 := [(op3, v3, x3, (ta, n3, sa)), (op1, v1, x1, (tb, n1, sb))]) (cs3 := [(op2, v2, x2, (tc, n2, sc)), (op1, v1, x1, (td, n1, sd))])); (case hy => exact heap_alloc_new _ _); (case hc => exact (below_new (((va.trans (vb.mono (va).size)).trans (vc.mono ((va.trans (vb.mono (va).size))).size)).trans (vd.mono (((va.trans (vb.mono (va).size)).trans (vc.mono ((va.trans (vb.mono (va).size))).size))).size)) (Nat.le_refl _) _)); (case hb => (first | rfl | (simp; done))); (case ha2 => rfl); (case hn2 => rfl); (case hm2 => exact hm2); (case hb1 => (first | omega | (simp; omega))); (case ha => rfl); (case hn => rfl); (case hm => exact hm3); (case hA => (first | rfl | (simp; done))); (case hk2 => exact twL2 (tw_of (fa.alloc' _) ma noOwn _ _ _) (tw_of (fb.alloc' _) (Nat.le_trans va.size mb) noOwn _ _ _)); (case hk3 => exact twL2 (tw_of (fc.alloc' _) (Nat.le_trans (Nat.le_trans va.size vb.size) mc) noOwn _ _ _) (tw_of (fd.alloc' _) (Nat.le_trans (Nat.le_trans (Nat.le_trans va.size vb.size) vc.size) md) noOwn _ _ _)))
                | ((refine ⟨_, wd.heap.size + 2, rfl, ?h⟩); (with_reducible apply endB2 (cs2 := [(op3, v3, x3, (ta, n3, sa)), (op1, v1, x1, (tb, n1, sb))]) (cs3 := [(op2, v2, x2, (tc, n2, sc)), (op1, v1, x1, (td, n1, sd))])); (case hy => exact alloc_fst _ _ _); (case hc => exact (below_new (below_new (((va.trans (vb.mono (va).size)).trans (vc.mono ((va.trans (vb.mono (va).size))).size)).trans (vd.mono (((va.trans (vb.mono (va).size)).trans (vc.mono ((va.trans (vb.mono (va).size))).size))).size)) (Nat.le_refl _) _) (Nat.le_refl _) _)); (case hb => (first | rfl | (simp; done))); (case ha2 => rfl); (case hn2 => rfl); (case hm2 => exact hm2); (case hb1 => (first | omega | (simp; omega))); (case ha => rfl); (case hn => rfl); (case hm => exact hm3); (case hz => exact alloc_snd _ _ _); (case hk2 => exact twL2 (tw_of ((fa.alloc' _).alloc' _) ma noOwn _ _ _) (tw_of ((fb.alloc' _).alloc' _) (Nat.le_trans va.size mb) noOwn _ _ _)); (case hk3 => exact twL2 (tw_of ((fc.alloc' _).alloc' _) (Nat.le_trans (Nat.le_trans va.size vb.size) mc) noOwn _ _ _) (tw_of ((fd.alloc' _).alloc' _) (Nat.le_trans (Nat.le_trans (Nat.le_trans va.size vb.size) vc.size) md) noOwn _ _ _)))
                | ((refine ⟨_, wd.heap.size + 2, rfl, ?h⟩); (with_reducible apply endB2 (cs2 := [(op3, v3, x3, (ta, n3, sa)), (op1, v1, x1, (tb, n1, sb))]) (cs3 := [(op2, v2, x2, (tc, n2, sc)), (op1, v1, x1, (td, n1, sd))])); (case hy => exact alloc_snd _ _ _); (case hc => exact (below_new (below_new (((va.trans (vb.mono (va).size)).trans (vc.mono ((va.trans (vb.mono (va).size))).size)).trans (vd.mono (((va.trans (vb.mono (va).size)).trans (vc.mono ((va.trans (vb.mono (va).size))).size))).size)) (Nat.le_refl _) _) (Nat.le_refl _) _)); (case hb => (first | rfl | (simp; done))); (case ha2 => rfl); (case hn2 => rfl); (case hm2 => exact hm2); (case hb1 => (first | omega | (simp; omega))); (case ha => rfl); (case hn => rfl); (case hm => exact hm3); (case hz => exact alloc_fst _ _ _); (case hk2 => exact twL2 (tw_of ((fa.alloc' _).alloc' _) ma noOwn _ _ _) (tw_of ((fb.alloc' _).alloc' _) (Nat.le_trans va.size mb) noOwn _ _ _)); (case hk3 => exact twL2 (tw_of ((fc.alloc' _).alloc' _) (Nat.le_trans (Nat.le_trans va.size vb.size) mc) noOwn _ _ _) (tw_of ((fd.alloc' _).alloc' _) (Nat.le_trans (Nat.le_trans (Nat.le_trans va.size vb.size) vc.size) md) noOwn _ _ _)))
        case rest =>
        obtain ⟨A10, b10, rfl, HC10⟩ := hcut
        obtain ⟨w10, hw10⟩ : ∃ w10, w10 = wc := ⟨_, rfl⟩
        subst hw10
        have HB10 := Lib.hid (HB9.out.trans (HC10.out.2.2.mono HB9.out.size))
        go_upto_region 14 with fail
        go_cut [11] from 78 to 85 (fun p9 wx => ∃ A b, p9 = .pointer (some ⟨A, 0, none⟩) ∧ Hid (wx.heap[A]? = some (.cells #[.int .i64 3, .int .i64 0, .int .i64 0, .slice (some ⟨b, 0, none⟩) 3 3] 26) ∧ FitS wx [.mk 4 0 0 [.mk op1 v1 x1 gs1], .mk 4 0 0 [.mk op2 v2 x2 gs2], .mk 4 0 0 [.mk op3 v3 x3 gs3]] (some ⟨b, 0, none⟩) 3 3 ∧ Below w10.heap.size w10 wx))
        case first =>
          (try clear hF1); (try clear hF2); (try clear hF3); (try clear hV); (try clear hVn); (try clear hVb); (try clear hb0); (try clear hbx); (try clear HF1); (try clear hid); (try clear HF2); (try clear HF3); (try clear HV1); (try clear hW1); (try clear HB0); (try clear HVN); (try clear HVL); (try clear HVB); (try clear hvb); (try clear hB); (try clear Hid); (try clear HBX); (try clear HB1); (try clear hG); (try clear hr1); (try clear HB2); (try clear hX); (try clear HBF); (try clear HSZ1); (try clear hr2); (try clear HB3); (try clear HSZ2); (try clear hr3); (try clear HB4); (try clear HSZ3); (try clear HX4); (try clear HLT4); (try clear hne4); (try clear hne5); (try clear hne6); (try clear h13a); (try clear h13b); (try clear h13c); (try clear H13A); (try clear H13B); (try clear H13C); (try clear HP); (try clear hcut); (try clear hw5); (try clear HP1); (try clear HP2); (try clear HP3); (try clear HB5); (try clear HQ5); (try clear HB6); (try clear HQ6); (try clear k0); (try clear k1); (try clear k2); (try clear k3); (try clear hsb); (try clear hsx); (try clear hw7); (try clear hT); (try clear HB7); (try clear HQ7); (try clear hq); (try clear HM); (try clear hrel); (try clear HBR); (try clear hqn); (try clear hq3); (try clear HQ3); (try clear hgb); (try clear hgx); (try clear HBE); (try clear HBL); (try clear hwA); (try clear hA); (try clear e0); (try clear e1); (try clear e2); (try clear e3); (try clear hC); (try clear hFR); (try clear HL9); (try clear HFR); (try clear hK); (try clear here); (try clear his); (try clear HIS); (try clear HL10); (try clear HI1); (try clear HI2); (try clear HI3); (try clear HB8); (try clear HQ8); (try clear hw8); (try clear HX1); (try clear HX2); (try clear HX3); (try clear y1); (try clear y2); (try clear y3); (try clear hfr); (try clear ebase); (try clear drew); (try clear ec); (try clear keeps); (try clear eb); (try clear ea); (try clear hm3); (try clear decide); (try clear endA); (try clear hc); (try clear done); (try clear ha); (try clear hn); (try clear hm); (try clear hk); (try clear endB); (try clear hz); (try clear endC); (try clear HC9); (try clear hw9); (try clear ed); (try clear yd); (try clear yc); (try clear hm2); (try clear yl); (try clear endC2); (try clear hy); (try clear ha2); (try clear hn2); (try clear hb1); (try clear hne); (try clear hk2); (try clear hk3); (try clear endA2); (try clear endB2); (try clear HC10); (try clear hw10)
          have cbase : Below w8.heap.size w8 w10 := HB10.out
          have ebase : w8.heap.size ≤ w10.heap.size := cbase.size
          go_region_held3 (fun W => W.cell? ⟨P1, 0, none⟩ = some (.int .i64 op1) ∧ W.cell? ⟨P1, 1, none⟩ = some (.int .i64 v1) ∧ W.cell? ⟨P1, 2, none⟩ = some (.int .i64 x1) ∧ W.cell? ⟨P1, 3, none⟩ = some (.slice a1 n1 cap1) ∧ W.cell? ⟨P2, 0, none⟩ = some (.int .i64 op2) ∧ W.cell? ⟨P2, 1, none⟩ = some (.int .i64 v2) ∧ W.cell? ⟨P2, 2, none⟩ = some (.int .i64 x2) ∧ W.cell? ⟨P2, 3, none⟩ = some (.slice a2 n2 cap2) ∧ W.cell? ⟨P3, 0, none⟩ = some (.int .i64 op3) ∧ W.cell? ⟨P3, 1, none⟩ = some (.int .i64 v3) ∧ W.cell? ⟨P3, 2, none⟩ = some (.int .i64 x3) ∧ W.cell? ⟨P3, 3, none⟩ = some (.slice a3 n3 cap3)) (((with_reducible apply HSX.out); (repeat' (first | with_reducible assumption | with_reducible apply below_set4 | with_reducible apply below_al | with_reducible apply Below.drew | with_reducible apply Below.refl | with_reducible apply Nat.le_refl | with_reducible apply Nat.le_succ_of_le)))) (first
            | (go_at_call_of 21 (Value.int .i64 op3); refine (HN3.out wb _ (cb) (by first | exact Below.refl wb.heap.size wb | exact (Below.refl wb.heap.size wb).drew | exact (Below.refl wb.heap.size wb).alloc (Below.refl wb.heap.size wb).size _ | exact ((Below.refl wb.heap.size wb).alloc (Below.refl wb.heap.size wb).size _).drew | exact ((Below.refl wb.heap.size wb).alloc (Below.refl wb.heap.size wb).size _).alloc ((Below.refl wb.heap.size wb).alloc (Below.refl wb.heap.size wb).size _).size _ | exact (((Below.refl wb.heap.size wb).alloc (Below.refl wb.heap.size wb).size _).alloc ((Below.refl wb.heap.size wb).alloc (Below.refl wb.heap.size wb).size _).size _).drew)).mono ?_; rintro e wc ⟨tc, sc, rfl, fc, vc, bc, cc, mc⟩; (try simp only [World.size_alloc] at fc mc); have ec := cc.size; have nc := bc.size; (try simp only [World.size_alloc] at nc); have fa := fa.keeps (Keeps.of_below vc fa.top); have fb := fb.keeps (Keeps.of_below vc fb.top); (try have zc := (vc.block _ (Array.getElem?_eq_some_iff.1 zb).1).trans zb); (try (with_reducible have zc : wc.heap[wb.heap.size]? = some (.cells #[.int .i64 0, .int .i64 0, .int .i64 0, .slice none 0 0] 26) := (bc.block _ (alloc_lt _ _)).trans (heap_alloc_new _ _))); (try have qc := fun o => cells4_of ((heap_alloc_old wc o (Array.getElem?_eq_some_iff.1 zc).1).trans zc)); (try have qc0 := fun o => (qc o).1.1); (try have qc1 := fun o => (qc o).1.2.1); (try have qc2 := fun o => (qc o).1.2.2.1); (try have qc3 := fun o => (qc o).1.2.2.2); (try have qc4 := fun o => (qc o).2.1); (try have qc5 := fun o => (qc o).2.2.1); (try have qc6 := fun o => (qc o).2.2.2.1); (try have qc7 := fun o => (qc o).2.2.2.2); (try clear qc))
            | (go_at_call_of 21 (Value.int .i64 op2); refine (HN2.out wa _ (ca) (by first | exact Below.refl wa.heap.size wa | exact (Below.refl wa.heap.size wa).drew | exact (Below.refl wa.heap.size wa).alloc (Below.refl wa.heap.size wa).size _ | exact ((Below.refl wa.heap.size wa).alloc (Below.refl wa.heap.size wa).size _).drew | exact ((Below.refl wa.heap.size wa).alloc (Below.refl wa.heap.size wa).size _).alloc ((Below.refl wa.heap.size wa).alloc (Below.refl wa.heap.size wa).size _).size _ | exact (((Below.refl wa.heap.size wa).alloc (Below.refl wa.heap.size wa).size _).alloc ((Below.refl wa.heap.size wa).alloc (Below.refl wa.heap.size wa).size _).size _).drew)).mono ?_; rintro e wb ⟨tb, sb, rfl, fb, vb, bb, cb, mb⟩; (try simp only [World.size_alloc] at fb mb); have eb := cb.size; have nb := bb.size; (try simp only [World.size_alloc] at nb); have fa := fa.keeps (Keeps.of_below vb fa.top); (try have zb := (vb.block _ (Array.getElem?_eq_some_iff.1 za).1).trans za); (try (with_reducible have zb : wb.heap[wa.heap.size]? = some (.cells #[.int .i64 0, .int .i64 0, .int .i64 0, .slice none 0 0] 26) := (bb.block _ (alloc_lt _ _)).trans (heap_alloc_new _ _))))
            | (go_at_call_of 21 (Value.int .i64 op1); refine (HN1.out w10 _ (HB10.out) (by first | exact Below.refl w10.heap.size w10 | exact (Below.refl w10.heap.size w10).drew | exact (Below.refl w10.heap.size w10).alloc (Below.refl w10.heap.size w10).size _ | exact ((Below.refl w10.heap.size w10).alloc (Below.refl w10.heap.size w10).size _).drew | exact ((Below.refl w10.heap.size w10).alloc (Below.refl w10.heap.size w10).size _).alloc ((Below.refl w10.heap.size w10).alloc (Below.refl w10.heap.size w10).size _).size _ | exact (((Below.refl w10.heap.size w10).alloc (Below.refl w10.heap.size w10).size _).alloc ((Below.refl w10.heap.size w10).alloc (Below.refl w10.heap.size w10).size _).size _).drew)).mono ?_; rintro e wa ⟨ta, sa, rfl, fa, va, ba, ca, ma⟩; (try simp only [World.size_alloc, World.drew] at fa ma); have ea := ca.size; have na := ba.size; (try simp only [World.size_alloc, World.drew] at na); (try (with_reducible have za : wa.heap[w10.heap.size]? = some (.cells #[.int .i64 0, .int .i64 0, .int .i64 0, .slice none 0 0] 26) := (ba.block _ (drew_lt _ _)).trans (drew_new _ _))))
            )
          all_goals
            go_wp2_with fail
            go_meet
            case rel =>
              have l0 : w10.heap.size ≤ wa.heap.size := va.size
              have l1 : wa.heap.size ≤ wb.heap.size := vb.size
              have l2 : wb.heap.size ≤ wc.heap.size := vc.size
              have oa := fa.top
              have ob := fb.top
              have oc := fc.top
              have hm3 : 3 ≤ maxLen := by decide
              first
                | ((refine ⟨_, wc.heap.size, rfl, ?h⟩); (with_reducible apply endA (cs := [(4, 0, 0, (ta, 1, sa)), (4, 0, 0, (tb, 1, sb)), (4, 0, 0, (tc, 1, sc))])); (case hc => exact ((va.trans (vb.mono (va).size)).trans (vc.mono ((va.trans (vb.mono (va).size))).size))); (case hb => (first | rfl | (simp; done))); (case ha => rfl); (case hn => rfl); (case hm => exact hm3); (case hA => (first | rfl | (simp; done))); (case hk => exact twL3 (tw_of fa ma noOwn _ _ _) (tw_of fb (Nat.le_trans va.size mb) noOwn _ _ _) (tw_of fc (Nat.le_trans (Nat.le_trans va.size vb.size) mc) noOwn _ _ _)))
                | ((refine ⟨_, wc.heap.size + 1, rfl, ?h⟩); (with_reducible apply endB (cs := [(4, 0, 0, (ta, 1, sa)), (4, 0, 0, (tb, 1, sb)), (4, 0, 0, (tc, 1, sc))])); (case hc => exact (below_new ((va.trans (vb.mono (va).size)).trans (vc.mono ((va.trans (vb.mono (va).size))).size)) (Nat.le_refl _) _)); (case hb => (first | rfl | (simp; done))); (case ha => rfl); (case hn => rfl); (case hm => exact hm3); (case hz => exact heap_alloc_new _ _); (case hk => exact twL3 (tw_of (fa.alloc' _) ma noOwn _ _ _) (tw_of (fb.alloc' _) (Nat.le_trans va.size mb) noOwn _ _ _) (tw_of (fc.alloc' _) (Nat.le_trans (Nat.le_trans va.size vb.size) mc) noOwn _ _ _)))
                | ((refine ⟨_, wc.heap.size, rfl, ?h⟩); (with_reducible apply endC (cs := [(4, 0, 0, (ta, 1, sa)), (4, 0, 0, (tb, 1, sb)), (4, 0, 0, (tc, 1, sc))])); (case hc => exact ((va.trans (vb.mono (va).size)).trans (vc.mono ((va.trans (vb.mono (va).size))).size))); (case hb => (first | rfl | (simp; done))); (case ha => rfl); (case hn => rfl); (case hm => exact hm3); (case hz => exact zc); (case hA => omega); (case hk => (refine twL3 (tw_of fa ma ?_ _ _ _) (tw_of fb (Nat.le_trans va.size mb) ?_ _ _ _) (tw_of fc (Nat.le_trans (Nat.le_trans va.size vb.size) mc) ?_ _ _ _)) <;> (intro j e; cases e; omega)))
        case rest =>
        obtain ⟨A11, b11, rfl, HC11⟩ := hcut
        obtain ⟨w11, hw11⟩ : ∃ w11, w11 = wc := ⟨_, rfl⟩
        subst hw11
        have hb9 := HC10.out.2.2
        have hb10 := HC11.out.2.2
        have hx9 := (hb9.block A9 (Array.getElem?_eq_some_iff.1 HC9.out.1).1).trans HC9.out.1
        have XA := Lib.hid ((hb10.block A9 (Array.getElem?_eq_some_iff.1 hx9).1).trans hx9)
        have YA := Lib.hid ((HC9.out.2.1.below hb9).below hb10)
        have XG := Lib.hid ((hb10.block A10 (Array.getElem?_eq_some_iff.1 HC10.out.1).1).trans HC10.out.1)
        have YG := Lib.hid (HC10.out.2.1.below hb10)
        have XO := Lib.hid HC11.out.1
        have YO := Lib.hid HC11.out.2.1
        have HB11 := Lib.hid (HB10.out.trans (hb10.mono HB10.out.size))
        have HW11 := Lib.hid (HB8.out.trans (HB11.out.mono HB8.out.size))
        have HQ11 : Hid (Below w11.heap.size w11 w11) := Lib.hid (Below.refl _ _)
        clear hb9 hb10 hx9 HC9 HC10 HC11 HB9 HB10 HT2 HT3 HN2 HN3
        have IA : Hid (isB (.mk 2 0 0 [.mk op1 v1 x1 gs1, .mk op2 v2 x2 gs2, .mk op3 v3 x3 gs3]) = true) := Lib.hid (isB_and HI1.out HI2.out HI3.out)
        have IG : Hid (isB (.mk 2 0 0 [.mk 2 0 0 [.mk op3 v3 x3 gs3, .mk op1 v1 x1 gs1], .mk op2 v2 x2 gs2, .mk op1 v1 x1 gs1]) = true) := Lib.hid (isB_and (isB_two HI3.out HI1.out) HI2.out HI1.out)
        have IO : Hid (isB (.mk 3 0 0 [.mk 4 0 0 [.mk op1 v1 x1 gs1], .mk 4 0 0 [.mk op2 v2 x2 gs2], .mk 4 0 0 [.mk op3 v3 x3 gs3]]) = true) := Lib.hid (isB_or (isB_not HI1.out) (isB_not HI2.out) (isB_not HI3.out))
        obtain ⟨c, hc⟩ : ∃ c, Hid (chkG vs = c) := ⟨_, Lib.hid rfl⟩
        obtain ⟨t1, ht1⟩ : ∃ t1, Hid ((if c = 0 then evalF vs (.mk 2 0 0 [.mk op1 v1 x1 gs1, .mk op2 v2 x2 gs2, .mk op3 v3 x3 gs3]) else 0) = t1) := ⟨_, Lib.hid rfl⟩
        obtain ⟨t3, ht3⟩ : ∃ t3, Hid ((if c = 0 then evalF vs (.mk 3 0 0 [.mk 4 0 0 [.mk op1 v1 x1 gs1], .mk 4 0 0 [.mk op2 v2 x2 gs2], .mk 4 0 0 [.mk op3 v3 x3 gs3]]) else 0) = t3) := ⟨_, Lib.hid rfl⟩
        have HTR : Hid (∀ V W, Below w11.heap.size w11 V → Below V.heap.size V W → Calls Try.prog 11 #[.slice va vn vc] W fun e w' => ∃ a' c', e = .returned (.slice a' vn c') ∧ Rd w' .i64 a' vn c' vs ∧ Below V.heap.size V w' ∧ Below W.heap.size W w' ∧ Below w11.heap.size w11 w' ∧ V.heap.size ≤ W.heap.size) := Lib.hid fun V W hv hw => (truthsR va vn vc vs W (HV1.out.below (HW11.out.trans ((hv.trans (hw.mono hv.size)).mono HW11.out.size))) HVN.out (by have := HVB.out; omega)).mono (by rintro e w' ⟨a', c', rfl, rd, b⟩; exact ⟨a', c', rfl, rd, hw.trans (b.mono hw.size), b, (hv.trans (hw.mono hv.size)).trans (b.mono (Nat.le_trans hv.size hw.size)), hw.size⟩)
        have HSA : Hid (∀ W, Below w11.heap.size w11 W → (W.cell? ⟨A9, 0, none⟩ = some (.int .i64 2) ∧ W.cell? ⟨A9, 1, none⟩ = some (.int .i64 0) ∧ W.cell? ⟨A9, 2, none⟩ = some (.int .i64 0) ∧ W.cell? ⟨A9, 3, none⟩ = some (.slice (some ⟨b9, 0, none⟩) 3 3))) := Lib.hid fun W hb => (cells4_of ((hb.block A9 (Array.getElem?_eq_some_iff.1 XA.out).1).trans XA.out)).1
        have HEA : Hid (∀ W a7 c7, Below w11.heap.size w11 W → Rd W .i64 a7 vn c7 vs → Calls Try.prog 12 #[.agg #[.int .i64 2, .int .i64 0, .int .i64 0, .slice (some ⟨b9, 0, none⟩) 3 3], .slice a7 vn c7] W fun e w' => e = .returned (.tuple #[.int .i64 t1, .int .i64 c]) ∧ Grows W w') := Lib.hid fun W a7 c7 hb rd => by
          have hC := Eval_calls 2 0 0 [.mk op1 v1 x1 gs1, .mk op2 v2 x2 gs2, .mk op3 v3 x3 gs3] (some ⟨b9, 0, none⟩) 3 3 vs a7 vn c7 W (YA.out.below hb) rd
          rw [chk2_isB IA.out, hc.out] at hC
          rw [ht1.out] at hC
          exact hC
        have HSG : Hid (∀ W, Below w11.heap.size w11 W → (W.cell? ⟨A10, 0, none⟩ = some (.int .i64 2) ∧ W.cell? ⟨A10, 1, none⟩ = some (.int .i64 0) ∧ W.cell? ⟨A10, 2, none⟩ = some (.int .i64 0) ∧ W.cell? ⟨A10, 3, none⟩ = some (.slice (some ⟨b10, 0, none⟩) 3 3))) := Lib.hid fun W hb => (cells4_of ((hb.block A10 (Array.getElem?_eq_some_iff.1 XG.out).1).trans XG.out)).1
        have HEG : Hid (∀ W a7 c7, Below w11.heap.size w11 W → Rd W .i64 a7 vn c7 vs → Calls Try.prog 12 #[.agg #[.int .i64 2, .int .i64 0, .int .i64 0, .slice (some ⟨b10, 0, none⟩) 3 3], .slice a7 vn c7] W fun e w' => e = .returned (.tuple #[.int .i64 t1, .int .i64 c]) ∧ Grows W w') := Lib.hid fun W a7 c7 hb rd => by
          have hC := Eval_calls 2 0 0 [.mk 2 0 0 [.mk op3 v3 x3 gs3, .mk op1 v1 x1 gs1], .mk op2 v2 x2 gs2, .mk op1 v1 x1 gs1] (some ⟨b10, 0, none⟩) 3 3 vs a7 vn c7 W (YG.out.below hb) rd
          rw [chk2_isB IG.out, hc.out] at hC
          rw [eval_grouped] at hC
          rw [ht1.out] at hC
          exact hC
        have HSO : Hid (∀ W, Below w11.heap.size w11 W → (W.cell? ⟨A11, 0, none⟩ = some (.int .i64 3) ∧ W.cell? ⟨A11, 1, none⟩ = some (.int .i64 0) ∧ W.cell? ⟨A11, 2, none⟩ = some (.int .i64 0) ∧ W.cell? ⟨A11, 3, none⟩ = some (.slice (some ⟨b11, 0, none⟩) 3 3))) := Lib.hid fun W hb => (cells4_of ((hb.block A11 (Array.getElem?_eq_some_iff.1 XO.out).1).trans XO.out)).1
        have HEO : Hid (∀ W a7 c7, Below w11.heap.size w11 W → Rd W .i64 a7 vn c7 vs → Calls Try.prog 12 #[.agg #[.int .i64 3, .int .i64 0, .int .i64 0, .slice (some ⟨b11, 0, none⟩) 3 3], .slice a7 vn c7] W fun e w' => e = .returned (.tuple #[.int .i64 t3, .int .i64 c]) ∧ Grows W w') := Lib.hid fun W a7 c7 hb rd => by
          have hC := Eval_calls 3 0 0 [.mk 4 0 0 [.mk op1 v1 x1 gs1], .mk 4 0 0 [.mk op2 v2 x2 gs2], .mk 4 0 0 [.mk op3 v3 x3 gs3]] (some ⟨b11, 0, none⟩) 3 3 vs a7 vn c7 W (YO.out.below hb) rd
          rw [chk2_isB IO.out, hc.out] at hC
          rw [ht3.out] at hC
          exact hC
        go_upto_region 15 with fail
        have cbase := HQ11.out
        go_region_held3 (fun W => W.cell? ⟨A9, 0, none⟩ = some (.int .i64 2) ∧ W.cell? ⟨A9, 1, none⟩ = some (.int .i64 0) ∧ W.cell? ⟨A9, 2, none⟩ = some (.int .i64 0) ∧ W.cell? ⟨A9, 3, none⟩ = some (.slice (some ⟨b9, 0, none⟩) 3 3)) (((with_reducible apply HSA.out); (repeat' (first | with_reducible assumption | with_reducible apply below_set4 | with_reducible apply below_al | with_reducible apply Below.drew | with_reducible apply Below.refl | with_reducible apply Nat.le_refl | with_reducible apply Nat.le_succ_of_le)))) (first
          | (go_at_call 11; refine (HTR.out w11 _ HQ11.out (by first | exact Below.refl _ _ | exact (Below.refl _ _).drew)).mono ?_; rintro e wa ⟨a7, c7, rfl, rd7, va7, ba, ca, _⟩)
          | (go_at_call 12; refine (HEA.out wa a7 c7 ca rd7).mono ?_; rintro e wb ⟨rfl, gb⟩; have cb := ca.trans (gb.below.mono ca.size)))
        obtain ⟨w12, hw12⟩ : ∃ w, w = wb := ⟨_, rfl⟩
        subst hw12
        have HQ12 := Lib.hid cb
        clear cbase cb ca gb rd7 va7 ba
        go_upto_region 16 with fail
        have cbase := HQ12.out
        go_region_held3 (fun W => W.cell? ⟨A10, 0, none⟩ = some (.int .i64 2) ∧ W.cell? ⟨A10, 1, none⟩ = some (.int .i64 0) ∧ W.cell? ⟨A10, 2, none⟩ = some (.int .i64 0) ∧ W.cell? ⟨A10, 3, none⟩ = some (.slice (some ⟨b10, 0, none⟩) 3 3)) (((with_reducible apply HSG.out); (repeat' (first | with_reducible assumption | with_reducible apply below_set4 | with_reducible apply below_al | with_reducible apply Below.drew | with_reducible apply Below.refl | with_reducible apply Nat.le_refl | with_reducible apply Nat.le_succ_of_le)))) (first
          | (go_at_call 11; refine (HTR.out w12 _ HQ12.out (by first | exact Below.refl _ _ | exact (Below.refl _ _).drew)).mono ?_; rintro e wa ⟨a7, c7, rfl, rd7, va7, ba, ca, _⟩)
          | (go_at_call 12; refine (HEG.out wa a7 c7 ca rd7).mono ?_; rintro e wb ⟨rfl, gb⟩; have cb := ca.trans (gb.below.mono ca.size)))
        obtain ⟨w13, hw13⟩ : ∃ w, w = wb := ⟨_, rfl⟩
        subst hw13
        have HQ13 := Lib.hid cb
        clear cbase cb ca gb rd7 va7 ba
        go_upto_region 17 with fail
        have cbase := HQ13.out
        go_region_held3 (fun W => W.cell? ⟨A11, 0, none⟩ = some (.int .i64 3) ∧ W.cell? ⟨A11, 1, none⟩ = some (.int .i64 0) ∧ W.cell? ⟨A11, 2, none⟩ = some (.int .i64 0) ∧ W.cell? ⟨A11, 3, none⟩ = some (.slice (some ⟨b11, 0, none⟩) 3 3)) (((with_reducible apply HSO.out); (repeat' (first | with_reducible assumption | with_reducible apply below_set4 | with_reducible apply below_al | with_reducible apply Below.drew | with_reducible apply Below.refl | with_reducible apply Nat.le_refl | with_reducible apply Nat.le_succ_of_le)))) (first
          | (go_at_call 11; refine (HTR.out w13 _ HQ13.out (by first | exact Below.refl _ _ | exact (Below.refl _ _).drew)).mono ?_; rintro e wa ⟨a7, c7, rfl, rd7, va7, ba, ca, _⟩)
          | (go_at_call 12; refine (HEO.out wa a7 c7 ca rd7).mono ?_; rintro e wb ⟨rfl, gb⟩; have cb := ca.trans (gb.below.mono ca.size)))
        obtain ⟨w14, hw14⟩ : ∃ w, w = wb := ⟨_, rfl⟩
        subst hw14
        have HQ14 := Lib.hid cb
        clear cbase cb ca gb rd7 va7 ba
        have hcc : c = 0 ∨ c = 6 := by rw [← hc.out]; exact chkG_cases vs
        rcases hcc with rfl | rfl
        case inr =>
          have h1 : t1 = 0 := by have := ht1.out; rw [if_neg (by decide)] at this; exact this.symm
          have h3 : t3 = 0 := by have := ht3.out; rw [if_neg (by decide)] at this; exact this.symm
          clear ht1 ht3
          subst h1 h3
          have HBF := Lib.hid (HB0.out.trans ((HW11.out.trans (HQ14.out.mono HW11.out.size)).mono HB0.out.size))
          go_wp2_with fail
          go_ret
          exact ⟨rfl, HBF.out⟩
        have hgood := chkG_good hc.out
        have HT31 : Hid (2 - seenB t1 = t3) := Lib.hid (by
          have h1 := ht1.out
          have h3 := ht3.out
          rw [if_pos rfl] at h1 h3
          rw [← h1, ← h3, eval_turned])
        have HSL : Hid (simpF vs (.mk 2 0 0 [.mk 2 0 0 [.mk op3 v3 x3 gs3, .mk op1 v1 x1 gs1], .mk op2 v2 x2 gs2, .mk op1 v1 x1 gs1]) = simpF vs (.mk 2 0 0 [.mk op1 v1 x1 gs1, .mk op2 v2 x2 gs2, .mk op3 v3 x3 gs3])) := Lib.hid (simp_grouped hgood HI1.out HI2.out HI3.out)
        have HSN : Hid (simpF vs (.mk 4 0 0 [.mk 4 0 0 [.mk op1 v1 x1 gs1]]) = simpF vs (.mk op1 v1 x1 gs1)) := Lib.hid (simp_twice hgood HI1.out)
        have HPA : Hid (∀ V W a7 c7, Below w11.heap.size w11 V → Below V.heap.size V W → Rd W .i64 a7 vn c7 vs → Calls Try.prog 13 #[.agg #[.int .i64 2, .int .i64 0, .int .i64 0, .slice (some ⟨b9, 0, none⟩) 3 3], .slice a7 vn c7] W fun e w' => ∃ gop gv gx gss ga gn gc, e = .returned (.tuple #[.agg #[.int .i64 gop, .int .i64 gv, .int .i64 gx, .slice ga gn gc], .int .i64 0]) ∧ simpF vs (.mk 2 0 0 [.mk op1 v1 x1 gs1, .mk op2 v2 x2 gs2, .mk op3 v3 x3 gs3]) = .mk gop gv gx gss ∧ FitR W.heap.size w'.heap.size w' gss ga gn gc ∧ Below V.heap.size V w' ∧ Below W.heap.size W w' ∧ Below w11.heap.size w11 w' ∧ V.heap.size ≤ W.heap.size) := Lib.hid fun V W a7 c7 hv hw rd => by
          have hC := Simplify_calls 2 0 0 [.mk op1 v1 x1 gs1, .mk op2 v2 x2 gs2, .mk op3 v3 x3 gs3] (some ⟨b9, 0, none⟩) 3 3 vs a7 vn c7 W (YA.out.below (hv.trans (hw.mono hv.size))) rd (by have h1 := HSZ1.out; have h2 := HSZ2.out; have h3 := HSZ3.out; simp only [szF, szL] at h1 h2 h3 ⊢; omega)
          unfold SimplW at hC
          rw [chk2_isB IA.out, hc.out] at hC
          simp only [if_true] at hC
          refine hC.mono ?_
          rintro e w' ⟨gop, gv, gx, gss, ga, gn, gc, rfl, he, hF, b⟩
          exact ⟨gop, gv, gx, gss, ga, gn, gc, rfl, he, hF, hw.trans (b.mono hw.size), b, (hv.trans (hw.mono hv.size)).trans (b.mono (Nat.le_trans hv.size hw.size)), hw.size⟩
        have HPG : Hid (∀ V W a7 c7, Below w11.heap.size w11 V → Below V.heap.size V W → Rd W .i64 a7 vn c7 vs → Calls Try.prog 13 #[.agg #[.int .i64 2, .int .i64 0, .int .i64 0, .slice (some ⟨b10, 0, none⟩) 3 3], .slice a7 vn c7] W fun e w' => ∃ gop gv gx gss ga gn gc, e = .returned (.tuple #[.agg #[.int .i64 gop, .int .i64 gv, .int .i64 gx, .slice ga gn gc], .int .i64 0]) ∧ simpF vs (.mk 2 0 0 [.mk op1 v1 x1 gs1, .mk op2 v2 x2 gs2, .mk op3 v3 x3 gs3]) = .mk gop gv gx gss ∧ FitR W.heap.size w'.heap.size w' gss ga gn gc ∧ Below V.heap.size V w' ∧ Below W.heap.size W w' ∧ Below w11.heap.size w11 w' ∧ V.heap.size ≤ W.heap.size) := Lib.hid fun V W a7 c7 hv hw rd => by
          have hC := Simplify_calls 2 0 0 [.mk 2 0 0 [.mk op3 v3 x3 gs3, .mk op1 v1 x1 gs1], .mk op2 v2 x2 gs2, .mk op1 v1 x1 gs1] (some ⟨b10, 0, none⟩) 3 3 vs a7 vn c7 W (YG.out.below (hv.trans (hw.mono hv.size))) rd (by have h1 := HSZ1.out; have h2 := HSZ2.out; have h3 := HSZ3.out; simp only [szF, szL] at h1 h2 h3 ⊢; omega)
          unfold SimplW at hC
          rw [chk2_isB IG.out, hc.out] at hC
          simp only [if_true] at hC
          rw [HSL.out] at hC
          refine hC.mono ?_
          rintro e w' ⟨gop, gv, gx, gss, ga, gn, gc, rfl, he, hF, b⟩
          exact ⟨gop, gv, gx, gss, ga, gn, gc, rfl, he, hF, hw.trans (b.mono hw.size), b, (hv.trans (hw.mono hv.size)).trans (b.mono (Nat.le_trans hv.size hw.size)), hw.size⟩
        clear hgood ht1 ht3
        go_upto_region 20 with fail
        go_cut [18, 15] from 122 to 127 (fun p9 f9 wx => ∃ A gop gv gx gss ga gn gc, p9 = .pointer (some ⟨A, 0, none⟩) ∧ f9 = .int .i64 0 ∧ Hid (w14.heap.size ≤ A ∧ wx.heap[A]? = some (.cells #[.int .i64 gop, .int .i64 gv, .int .i64 gx, .slice ga gn gc] 26) ∧ simpF vs (.mk 2 0 0 [.mk op1 v1 x1 gs1, .mk op2 v2 x2 gs2, .mk op3 v3 x3 gs3]) = .mk gop gv gx gss ∧ FitS wx gss ga gn gc ∧ Below w14.heap.size w14 wx))
        case first =>
          have cbase := HQ14.out
          have ebase := cbase.size
          go_region_held3 (fun W => W.cell? ⟨A9, 0, none⟩ = some (.int .i64 2) ∧ W.cell? ⟨A9, 1, none⟩ = some (.int .i64 0) ∧ W.cell? ⟨A9, 2, none⟩ = some (.int .i64 0) ∧ W.cell? ⟨A9, 3, none⟩ = some (.slice (some ⟨b9, 0, none⟩) 3 3)) (((with_reducible apply HSA.out); (repeat' (first | with_reducible assumption | with_reducible apply below_set4 | with_reducible apply below_al | with_reducible apply Below.drew | with_reducible apply Below.refl | with_reducible apply Nat.le_refl | with_reducible apply Nat.le_succ_of_le)))) (first
            | (go_at_call 11; refine (HTR.out w14 _ HQ14.out (by first | exact Below.refl _ _ | exact (Below.refl _ _).drew | exact (Below.refl w14.heap.size w14).alloc (Nat.le_refl _) _ | exact ((Below.refl w14.heap.size w14).alloc (Nat.le_refl _) _).drew)).mono ?_; rintro e wa ⟨a7, c7, rfl, rd7, va7, ba, ca, ma⟩; have ea := ca.size; have na := ba.size; (try simp only [World.size_alloc, World.drew] at na ma); (try (with_reducible have za : wa.heap[w14.heap.size]? = some (.cells #[.int .i64 0, .int .i64 0, .int .i64 0, .slice none 0 0] 26) := (ba.block _ (drew_lt _ _)).trans (drew_new _ _))))
            | (go_at_call 13; refine (HPA.out wa _ a7 c7 ca (by first | exact Below.refl _ _ | exact (Below.refl _ _).drew | exact (Below.refl wa.heap.size wa).alloc (Nat.le_refl _) _ | exact ((Below.refl wa.heap.size wa).alloc (Nat.le_refl _) _).drew) (by first | exact rd7 | exact rd7.below ((Below.refl _ _).alloc (Nat.le_refl _) _))).mono ?_; rintro e wb ⟨gop, gv, gx, gss, ga, gn, gc, rfl, hsf, hfr, vb, bb, cb, mb⟩; have eb := cb.size; have nb := bb.size; (try simp only [World.size_alloc] at nb mb hfr); (try have zb := (vb.block _ (Array.getElem?_eq_some_iff.1 za).1).trans za); (try (with_reducible have zb : wb.heap[wa.heap.size]? = some (.cells #[.int .i64 0, .int .i64 0, .int .i64 0, .slice none 0 0] 26) := (bb.block _ (alloc_lt _ _)).trans (heap_alloc_new _ _))); (try have q0 := (cells4_of zb).1.1); (try have q1 := (cells4_of zb).1.2.1); (try have q2 := (cells4_of zb).1.2.2.1); (try have q3 := (cells4_of zb).1.2.2.2); (try have q4 := (cells4_of zb).2.1); (try have q5 := (cells4_of zb).2.2.1); (try have q6 := (cells4_of zb).2.2.2.1); (try have q7 := (cells4_of zb).2.2.2.2)))
          all_goals
            go_wp2_with fail
            go_meet
            case rel =>
              have l0 := va7.size
              have l1 := vb.size
              have o0 := hfr.top
              refine ⟨_, gop, gv, gx, gss, ga, gn, gc, rfl, rfl, ?_⟩
              first
                | ((with_reducible apply endS1 hsf); (case hc => exact (va7.trans (vb.mono va7.size))); (case hA => rfl); (case hf => exact hfr))
                | ((with_reducible apply endS2 hsf); (case hc => exact (va7.trans (vb.mono va7.size))); (case hz => exact zb); (case hf => exact hfr); (case hA => omega); (case hAf => omega))
        case rest =>
        obtain ⟨A18, gop, gv, gx, gss, ga, gn, gc, rfl, rfl, HC18⟩ := hcut
        obtain ⟨w15, hw15⟩ : ∃ w, w = wc := ⟨_, rfl⟩
        subst hw15
        have HQ15 := Lib.hid (HQ14.out.trans (HC18.out.2.2.2.2.mono HQ14.out.size))
        go_upto_region 21 with fail
        go_cut [19, 17] from 129 to 134 (fun p9 f9 wx => ∃ A gop gv gx gss ga gn gc, p9 = .pointer (some ⟨A, 0, none⟩) ∧ f9 = .int .i64 0 ∧ Hid (w15.heap.size ≤ A ∧ wx.heap[A]? = some (.cells #[.int .i64 gop, .int .i64 gv, .int .i64 gx, .slice ga gn gc] 26) ∧ simpF vs (.mk 2 0 0 [.mk op1 v1 x1 gs1, .mk op2 v2 x2 gs2, .mk op3 v3 x3 gs3]) = .mk gop gv gx gss ∧ FitS wx gss ga gn gc ∧ Below w15.heap.size w15 wx))
        case first =>
          have cbase := HQ15.out
          have ebase := cbase.size
          go_region_held3 (fun W => W.cell? ⟨A10, 0, none⟩ = some (.int .i64 2) ∧ W.cell? ⟨A10, 1, none⟩ = some (.int .i64 0) ∧ W.cell? ⟨A10, 2, none⟩ = some (.int .i64 0) ∧ W.cell? ⟨A10, 3, none⟩ = some (.slice (some ⟨b10, 0, none⟩) 3 3)) (((with_reducible apply HSG.out); (repeat' (first | with_reducible assumption | with_reducible apply below_set4 | with_reducible apply below_al | with_reducible apply Below.drew | with_reducible apply Below.refl | with_reducible apply Nat.le_refl | with_reducible apply Nat.le_succ_of_le)))) (first
            | (go_at_call 11; refine (HTR.out w15 _ HQ15.out (by first | exact Below.refl _ _ | exact (Below.refl _ _).drew | exact (Below.refl w15.heap.size w15).alloc (Nat.le_refl _) _ | exact ((Below.refl w15.heap.size w15).alloc (Nat.le_refl _) _).drew)).mono ?_; rintro e wa ⟨a7, c7, rfl, rd7, va7, ba, ca, ma⟩; have ea := ca.size; have na := ba.size; (try simp only [World.size_alloc, World.drew] at na ma); (try (with_reducible have za : wa.heap[w15.heap.size]? = some (.cells #[.int .i64 0, .int .i64 0, .int .i64 0, .slice none 0 0] 26) := (ba.block _ (drew_lt _ _)).trans (drew_new _ _))))
            | (go_at_call 13; refine (HPG.out wa _ a7 c7 ca (by first | exact Below.refl _ _ | exact (Below.refl _ _).drew | exact (Below.refl wa.heap.size wa).alloc (Nat.le_refl _) _ | exact ((Below.refl wa.heap.size wa).alloc (Nat.le_refl _) _).drew) (by first | exact rd7 | exact rd7.below ((Below.refl _ _).alloc (Nat.le_refl _) _))).mono ?_; rintro e wb ⟨gop, gv, gx, gss, ga, gn, gc, rfl, hsf, hfr, vb, bb, cb, mb⟩; have eb := cb.size; have nb := bb.size; (try simp only [World.size_alloc] at nb mb hfr); (try have zb := (vb.block _ (Array.getElem?_eq_some_iff.1 za).1).trans za); (try (with_reducible have zb : wb.heap[wa.heap.size]? = some (.cells #[.int .i64 0, .int .i64 0, .int .i64 0, .slice none 0 0] 26) := (bb.block _ (alloc_lt _ _)).trans (heap_alloc_new _ _))); (try have q0 := (cells4_of zb).1.1); (try have q1 := (cells4_of zb).1.2.1); (try have q2 := (cells4_of zb).1.2.2.1); (try have q3 := (cells4_of zb).1.2.2.2); (try have q4 := (cells4_of zb).2.1); (try have q5 := (cells4_of zb).2.2.1); (try have q6 := (cells4_of zb).2.2.2.1); (try have q7 := (cells4_of zb).2.2.2.2)))
          all_goals
            go_wp2_with fail
            go_meet
            case rel =>
              have l0 := va7.size
              have l1 := vb.size
              have o0 := hfr.top
              refine ⟨_, gop, gv, gx, gss, ga, gn, gc, rfl, rfl, ?_⟩
              first
                | ((with_reducible apply endS1 hsf); (case hc => exact (va7.trans (vb.mono va7.size))); (case hA => rfl); (case hf => exact hfr))
                | ((with_reducible apply endS2 hsf); (case hc => exact (va7.trans (vb.mono va7.size))); (case hz => exact zb); (case hf => exact hfr); (case hA => omega); (case hAf => omega))
        case rest =>
        obtain ⟨A19, gop2, gv2, gx2, gss2, ga2, gn2, gc2, rfl, rfl, HC19⟩ := hcut
        obtain ⟨w16, hw16⟩ : ∃ w, w = wc := ⟨_, rfl⟩
        subst hw16
        have HQ16 := Lib.hid (HQ15.out.trans (HC19.out.2.2.2.2.mono HQ15.out.size))
        have hx18 := (HC19.out.2.2.2.2.block A18 (Array.getElem?_eq_some_iff.1 HC18.out.2.1).1).trans HC18.out.2.1
        have hee := HC18.out.2.2.1.symm.trans HC19.out.2.2.1
        cases hee
        obtain rfl : gn = gn2 := by
          have h1 := HC18.out.2.2.2.1.len
          have h2 := HC19.out.2.2.2.1.len
          omega
        obtain ⟨⟨a0, a1', a2', a3'⟩, _⟩ := cells4_of hx18
        obtain ⟨⟨b0, b1, b2, b3⟩, _⟩ := cells4_of HC19.out.2.1
        have hN := not_calls t1 w16
        rw [HT31.out] at hN
        have hS := sameF_calls gop gv gx gss ga gn gc gop gv gx gss ga2 gn gc2 w16 (HC18.out.2.2.2.1.below HC19.out.2.2.2.2) HC19.out.2.2.2.1
        rw [sameB_self] at hS
        have HX18 := Lib.hid hx18
        have HX19 := Lib.hid HC19.out.2.1
        have HA18 := Lib.hid HC18.out.1
        have HA19 := Lib.hid HC19.out.1
        have HS15 : Hid (A18 < w15.heap.size) := Lib.hid (Array.getElem?_eq_some_iff.1 HC18.out.2.1).1
        have HR16 : Hid (Below w16.heap.size w16 w16) := Lib.hid (Below.refl _ _)
        clear hx18 HC18 HC19
        go_wp2_with fail
        refine hN.mono ?_
        rintro e wz ⟨rfl, rfl⟩
        go_wp2_with fail
        refine hS.mono ?_
        rintro e w17 ⟨rfl, g⟩
        have HR17 := Lib.hid g.below
        have HQ17 := Lib.hid (HQ16.out.trans (g.below.mono HQ16.out.size))
        clear hN hS g a0 a1' a2' a3' b0 b1 b2 b3
        obtain ⟨p0, p1, p2, p3, _⟩ := HSX.out w17 (HB11.out.trans (HQ17.out.mono HB11.out.size))
        have hC := notM_calls op1 v1 x1 gs1 a1 n1 cap1 w17 (HF1.out.below (HW11.out.trans (HQ17.out.mono HW11.out.size))) (by have := HSZ1.out; omega)
        go_wp2_with fail
        refine hC.mono ?_
        rintro e w18 ⟨na, nc, rfl, hfr, b⟩
        have HFN := Lib.hid hfr
        have HR18 := Lib.hid (HR17.out.trans (b.mono HR17.out.size))
        have HQ18 := Lib.hid (HQ17.out.trans (b.mono HQ17.out.size))
        clear hC hfr b p0 p1 p2 p3
        have hC := notM_calls 4 0 0 [.mk op1 v1 x1 gs1] na 1 nc w18 HFN.out.here (by have h1 := HSZ1.out; simp only [szF, szL] at h1 ⊢; omega)
        go_wp2_with fail
        refine hC.mono ?_
        rintro e w19 ⟨ma, mc, rfl, hfr, b⟩
        have HFM := Lib.hid hfr
        have HR19 := Lib.hid (HR18.out.trans (b.mono HR18.out.size))
        have HQ19 := Lib.hid (HQ18.out.trans (b.mono HQ18.out.size))
        clear hC hfr b
        have hC := HTR.out w19 w19 HQ19.out (Below.refl _ _)
        go_wp2_with fail
        refine hC.mono ?_
        rintro e w20 ⟨a7, c7, rfl, rd7, b, _, _, _⟩
        have HR20 := Lib.hid (HR19.out.trans (b.mono HR19.out.size))
        have HQ20 := Lib.hid (HQ19.out.trans (b.mono HQ19.out.size))
        clear hC
        have hC := Simplify_calls 4 0 0 [.mk 4 0 0 [.mk op1 v1 x1 gs1]] ma 1 mc vs a7 vn c7 w20 (HFM.out.keeps (Keeps.of_below b HFM.out.top)).here rd7 (by have h1 := HSZ1.out; simp only [szF, szL] at h1 ⊢; omega)
        unfold SimplW at hC
        rw [chk2_isB (isB_not (isB_not HI1.out)), hc.out] at hC
        simp only [if_true] at hC
        rw [HSN.out] at hC
        have HC := Lib.hid hC
        clear hC b rd7
        go_wp2_with fail
        refine HC.out.mono ?_
        rintro e w21 ⟨sop, sv, sx, sss, sa, sn, sc, rfl, hsf, hfr, b⟩
        have HSF := Lib.hid hsf
        have HFS := Lib.hid hfr
        have HR21 := Lib.hid (HR20.out.trans (b.mono HR20.out.size))
        have HQ21 := Lib.hid (HQ20.out.trans (b.mono HQ20.out.size))
        have hx := (HR21.out.block A18 (Array.getElem?_eq_some_iff.1 HX18.out).1).trans HX18.out
        have hy := (HR21.out.block A19 (Array.getElem?_eq_some_iff.1 HX19.out).1).trans HX19.out
        clear HC hsf hfr b
        obtain ⟨⟨r0, r1, r2, r3⟩, z0, z1, z2, z3⟩ := cells4_of hx
        go_upto_region 25 with fail
        obtain ⟨h8, g8⟩ := out4 hx (.int .i64 sop) (.int .i64 sv) (.int .i64 sx) (.slice sa sn sc)
        obtain ⟨w22, hw22⟩ : ∃ w22, Hid (w22 = (((w21.setCell ⟨A18, 0, none⟩ (.int .i64 sop)).setCell ⟨A18, 1, none⟩ (.int .i64 sv)).setCell ⟨A18, 2, none⟩ (.int .i64 sx)).setCell ⟨A18, 3, none⟩ (.slice sa sn sc)) := ⟨_, Lib.hid rfl⟩
        rw [← hw22.out] at h8 g8 ⊢
        have q1 := HA18.out
        have q2 := HA19.out
        have q3 := HS15.out
        have q4 := HR20.out.size
        have q5 := HQ14.out.size
        have q6 := (Array.getElem?_eq_some_iff.1 HX18.out).1
        have q7 := (Array.getElem?_eq_some_iff.1 HX19.out).1
        have q8 := (Array.getElem?_eq_some_iff.1 hy).1
        have q9 := HQ15.out.size
        have HY22 := Lib.hid ((g8.block A19 q8 (fun e => by have := Option.some.inj e; omega)).trans hy)
        have HX22 := Lib.hid h8
        have HFS22 := Lib.hid (HFS.out.keeps (Keeps.of_grown g8 HFS.out.top (fun j e => by have := Option.some.inj e; omega)))
        have HQ22 := Lib.hid (HQ21.out.grown g8 HQ21.out.size (fun j e => by have := Option.some.inj e; omega))
        have HN19 : Hid (A18 ≠ A19 ∧ A19 < w20.heap.size ∧ w11.heap.size ≤ A19) := Lib.hid ⟨by omega, by omega, by omega⟩
        have HR22 : Hid (Below w22.heap.size w22 w22) := Lib.hid (Below.refl _ _)
        clear h8 g8 hx hy r0 r1 r2 r3 z0 z1 z2 z3 hw22 q1 q2 q3 q4 q5 q6 q7 q8 q9 HFN HFM HFS
        obtain ⟨p0, p1, p2, p3, _⟩ := HSX.out w22 (HB11.out.trans (HQ22.out.mono HB11.out.size))
        have hC := twin_calls _ op1 v1 x1 gs1 a1 n1 cap1 w22 (Nat.le_refl _) (HF1.out.below (HW11.out.trans (HQ22.out.mono HW11.out.size))) (by have := HSZ1.out; omega)
        go_wp2_with fail
        refine hC.mono ?_
        rintro e w23 ⟨ta, tc, rfl, hfr, b⟩
        have HFT := Lib.hid hfr
        have HR23 := Lib.hid b
        have HQ23 := Lib.hid (HQ22.out.trans (b.mono HQ22.out.size))
        clear hC hfr b p0 p1 p2 p3
        have hC := HTR.out w23 w23 HQ23.out (Below.refl _ _)
        go_wp2_with fail
        refine hC.mono ?_
        rintro e w24 ⟨a7, c7, rfl, rd7, b, _, _, _⟩
        have HR24 := Lib.hid (HR23.out.trans (b.mono HR23.out.size))
        have HQ24 := Lib.hid (HQ23.out.trans (b.mono HQ23.out.size))
        clear hC
        have hC := Simplify_calls op1 v1 x1 gs1 ta n1 tc vs a7 vn c7 w24 (HFT.out.keeps (Keeps.of_below b HFT.out.top)).here rd7 (by have h1 := HSZ1.out; omega)
        unfold SimplW at hC
        rw [chk2_isB HI1.out, hc.out] at hC
        simp only [if_true] at hC
        have HC := Lib.hid hC
        clear hC b rd7
        go_wp2_with fail
        refine HC.out.mono ?_
        rintro e w25 ⟨sop2, sv2, sx2, sss2, sa2, sn2, sc2, rfl, hsf, hfr, b⟩
        have hee := HSF.out.symm.trans hsf
        clear hsf
        cases hee
        have hll : sn = sn2 := by
          have h1 := HFS22.out.here.len
          have h2 := hfr.here.len
          omega
        subst hll
        have HFT2 := Lib.hid hfr
        have HR25 := Lib.hid (HR24.out.trans (b.mono HR24.out.size))
        have HQ25 := Lib.hid (HQ24.out.trans (b.mono HQ24.out.size))
        have hx := (HR25.out.block A18 (Array.getElem?_eq_some_iff.1 HX22.out).1).trans HX22.out
        have hy := (HR25.out.block A19 (Array.getElem?_eq_some_iff.1 HY22.out).1).trans HY22.out
        clear HC hfr b
        obtain ⟨⟨r0, r1, r2, r3⟩, z0, z1, z2, z3⟩ := cells4_of hy
        go_upto_region 26 with fail
        obtain ⟨h8, g8⟩ := out4 hy (.int .i64 sop) (.int .i64 sv) (.int .i64 sx) (.slice sa2 sn sc2)
        obtain ⟨w26, hw26⟩ : ∃ w26, Hid (w26 = (((w25.setCell ⟨A19, 0, none⟩ (.int .i64 sop)).setCell ⟨A19, 1, none⟩ (.int .i64 sv)).setCell ⟨A19, 2, none⟩ (.int .i64 sx)).setCell ⟨A19, 3, none⟩ (.slice sa2 sn sc2)) := ⟨_, Lib.hid rfl⟩
        rw [← hw26.out] at h8 g8 ⊢
        have q1 := HN19.out
        have q2 := HR24.out.size
        have q3 := (Array.getElem?_eq_some_iff.1 hx).1
        have q4 := HFS22.out.top
        have q5 := HR25.out.size
        have q6 := (Array.getElem?_eq_some_iff.1 HY22.out).1
        have hx2 := (g8.block A18 q3 (fun e => by have := Option.some.inj e; omega)).trans hx
        have hF1' := (HFS22.out.keeps (Keeps.of_below HR25.out HFS22.out.top)).keeps (Keeps.of_grown g8 (by omega) (fun j e => by have := Option.some.inj e; omega))
        have hF2' := HFT2.out.keeps (Keeps.of_grown g8 HFT2.out.top (fun j e => by have := Option.some.inj e; omega))
        have hQ := HQ25.out.grown g8 HQ25.out.size (fun j e => by have := Option.some.inj e; omega)
        have HQ26 := Lib.hid hQ
        have hS := sameF_calls sop sv sx sss sa sn sc sop sv sx sss sa2 sn sc2 w26 hF1'.here hF2'.here
        rw [sameB_self] at hS
        clear r0 r1 r2 r3 z0 z1 z2 z3
        obtain ⟨⟨r0, r1, r2, r3⟩, _⟩ := cells4_of hx2
        obtain ⟨⟨z0, z1, z2, z3⟩, _⟩ := cells4_of h8
        clear h8 g8 hx hy hw26 q1 q2 q3 q4 q5 q6 hx2 hF1' hF2' hQ
        go_wp2_with fail
        refine hS.mono ?_
        rintro e w27 ⟨rfl, g⟩
        have HBF := Lib.hid (HB0.out.trans ((HW11.out.trans ((HQ26.out.trans (g.below.mono HQ26.out.size)).mono HW11.out.size)).mono HB0.out.size))
        clear hS g
        go_wp2_with fail
        go_ret
        exact ⟨rfl, HBF.out⟩
end Go.Proofs.Ytmdanfeilgeoaaa
