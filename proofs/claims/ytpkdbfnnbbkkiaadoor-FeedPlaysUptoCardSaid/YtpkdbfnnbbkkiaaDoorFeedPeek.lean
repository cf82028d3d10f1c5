/- The walk of feed's Peek. -/
import Derived.Test.YtpkdbfnnbbkkiaaDoorFeedWalk
import Derived.Test.YtpkdbfnnbbkkiaaDoorFeedLaw
import Derived.Deep.CutRange
import Derived.Deep.CutBlock
namespace Gim
open Go Go.Lib
theorem dec_width (xs : List Int) : (decB xs).2 ≤ 4 := by
  unfold decB
  split
  · simp
  · unfold Lib.decodeN
    repeat' split
    all_goals simp
theorem first_width (xs : List Int) (e : Bool) : 0 ≤ (firstB xs e).2.1 ∧ (firstB xs e).2.1 ≤ xs.length + 4 ∧ 0 ≤ (firstB xs e).2.2 ∧ (firstB xs e).2.2 ≤ 3 := by
  have hd := dec_width xs
  unfold firstB
  split
  · cases e
    · show (0 : Int) ≤ 0 ∧ (0 : Int) ≤ xs.length + 4 ∧ (0 : Int) ≤ 1 ∧ (1 : Int) ≤ 3; omega
    · show (0 : Int) ≤ 0 ∧ (0 : Int) ≤ xs.length + 4 ∧ (0 : Int) ≤ 3 ∧ (3 : Int) ≤ 3; omega
  split
  · show (0 : Int) ≤ 2 ∧ (2 : Int) ≤ xs.length + 4 ∧ (0 : Int) ≤ 0 ∧ (0 : Int) ≤ 3; omega
  split
  · show (0 : Int) ≤ 1 ∧ (1 : Int) ≤ xs.length + 4 ∧ (0 : Int) ≤ 0 ∧ (0 : Int) ≤ 3; omega
  split
  · show (0 : Int) ≤ 0 ∧ (0 : Int) ≤ xs.length + 4 ∧ (0 : Int) ≤ 1 ∧ (1 : Int) ≤ 3; omega
  split
  · cases e
    · show (0 : Int) ≤ 0 ∧ (0 : Int) ≤ xs.length + 4 ∧ (0 : Int) ≤ 1 ∧ (1 : Int) ≤ 3; omega
    · show (0 : Int) ≤ xs.length ∧ (xs.length : Int) ≤ xs.length + 4 ∧ (0 : Int) ≤ 2 ∧ (2 : Int) ≤ 3; omega
  split
  · rename_i hf hdd
    have hf : fullB xs = true := by simpa using hf
    have ht := take_four (xs := xs)
    have hg := (good_bad (xs := xs.take 4) (by rw [ht.2]; exact hf) (by rw [ht.1]; exact hdd)).1
    have hp : pieceN (xs.take 4) 0 ≤ 4 := by
      unfold pieceN
      have h := (runF_le (xs := xs.take 4) (at_ := 0) ((xs.take 4).length - 0) 0 (by omega)).1
      have : (xs.take 4).length ≤ 4 := by simp; omega
      omega
    simp only [hg]
    omega
  · simp
    omega
/-- what Peek answers: a character, its place, its width; how it stands -/
def peekB (xs : List Int) (p : Int × Int × Int × Int) (ended : Bool) : (Int × (Int × Int × Int × Int) × Int) × Int :=
  if (firstB xs ended).2.2 = 0 then (((firstB xs ended).1, p, (firstB xs ended).2.1), 0)
  else if (firstB xs ended).2.2 = 2 then ((0, (p.1 + (firstB xs ended).2.1, p.2.1 + (firstB xs ended).2.1, p.2.2.1, p.2.2.2 + (firstB xs ended).2.1), 0), 2)
  else ((0, (0, 0, 0, 0), 0), (firstB xs ended).2.2)
end Gim
namespace Go.Proofs.YtpkdbfnnbbkkiaaDoor
open Go.RowKit Gim
theorem six_heap {w : World} {R : Nat} {t : TypeId} {x0 x1 x2 x3 x4 x5 : Value} (h : w.heap[R]? = some (.cells #[x0, x1, x2, x3, x4, x5] t)) (a0 a1 a2 a3 a4 a5 : Value) :
    ((((((w.setCell ⟨R, 0, none⟩ (a0)).setCell ⟨R, 1, none⟩ (a1)).setCell ⟨R, 2, none⟩ (a2)).setCell ⟨R, 3, none⟩ (a3)).setCell ⟨R, 4, none⟩ (a4)).setCell ⟨R, 5, none⟩ (a5)).heap[R]? = some (.cells #[a0, a1, a2, a3, a4, a5] t) := by
  have h0 := Go.Joins.block_setCell h (i := 0) a0
  have h1 := Go.Joins.block_setCell h0 (i := 1) a1
  have h2 := Go.Joins.block_setCell h1 (i := 2) a2
  have h3 := Go.Joins.block_setCell h2 (i := 3) a3
  have h4 := Go.Joins.block_setCell h3 (i := 4) a4
  have h5 := Go.Joins.block_setCell h4 (i := 5) a5
  rw [h5]
  rfl
theorem six_below {B R : Nat} {u w : World} (h : Below B u w) (hR : B ≤ R) (a0 a1 a2 a3 a4 a5 : Value) :
    Below B u ((((((w.setCell ⟨R, 0, none⟩ (a0)).setCell ⟨R, 1, none⟩ (a1)).setCell ⟨R, 2, none⟩ (a2)).setCell ⟨R, 3, none⟩ (a3)).setCell ⟨R, 4, none⟩ (a4)).setCell ⟨R, 5, none⟩ (a5)) :=
  (((((h.setCell (p := ⟨R, 0, none⟩) hR _).setCell (p := ⟨R, 1, none⟩) hR _).setCell (p := ⟨R, 2, none⟩) hR _).setCell (p := ⟨R, 3, none⟩) hR _).setCell (p := ⟨R, 4, none⟩) hR _).setCell (p := ⟨R, 5, none⟩) hR _
/-- a character in memory -/
def charV (c : Int × (Int × Int × Int × Int) × Int) : Value := .agg #[.int .i32 c.1, .int .i64 c.2.1.1, .int .i64 c.2.1.2.1, .int .i64 c.2.1.2.2.1, .int .i64 c.2.1.2.2.2, .int .i64 c.2.2]
set_option maxRecDepth 100000 in
set_option maxHeartbeats 4000000 in
theorem peek_calls (w : World) (B F : Nat) (v : Value) (xs : List Int) (p : Int × Int × Int × Int) (ended : Bool) (h : Fm w B F v xs p ended) (hT : U8 w) (hn : xs.length ≤ 70368744177664) (hp : 0 ≤ p.1 ∧ p.1 ≤ 1152921504606846976 ∧ 0 ≤ p.2.1 ∧ p.2.1 ≤ 1152921504606846976 ∧ 0 ≤ p.2.2.2 ∧ p.2.2.2 ≤ 1152921504606846976) :
    Calls Tryd.prog 22 #[.pointer (some ⟨F, 0, none⟩)] w fun e w' => e = .returned (.tuple #[charV (peekB xs p ended).1, .int .i64 (peekB xs p ended).2]) ∧ Below w.heap.size w w' := by
  have hb1 : Below w.heap.size w (w.alloc (Obj.cells #[.int .i32 0, .int .i64 0, .int .i64 0, .int .i64 0, .int .i64 0, .int .i64 0] 32)) := (Below.refl _ _).alloc (Nat.le_refl _) _
  have hR := heap_alloc_new w (Obj.cells #[.int .i32 0, .int .i64 0, .int .i64 0, .int .i64 0, .int .i64 0, .int .i64 0] 32)
  have hm := h.fresh hb1
  have hT1 := hT.below hb1
  unfold peekB
  have hwd := first_width xs ended
  obtain ⟨f, hf⟩ : ∃ f, Hid (f = firstB xs ended) := ⟨_, rfl⟩
  rw [← hf.out] at hwd ⊢
  obtain ⟨fr, fn, fh⟩ := f
  obtain ⟨p1, p2, p3, p4⟩ := p
  simp only [] at hwd hp ⊢
  go_enter Tryd.func22, Tryd.ntmps22
  go_upto_region 3 with fail
  generalize w.alloc (Obj.cells #[.int .i32 0, .int .i64 0, .int .i64 0, .int .i64 0, .int .i64 0, .int .i64 0] 32) = W1 at hb1 hR hm hT1 ⊢
  have hRl := (Array.getElem?_eq_some_iff.1 hR).1
  have hne : F ≠ w.heap.size := by have := h.lt.1; omega
  obtain ⟨va, vc, rfl, rd⟩ := hm.own.rd
  have k0 : W1.cell? ⟨F, 0, none⟩ = some (.slice va xs.length vc) := by simp [World.cell?, hm.hF]
  have k5 : W1.cell? ⟨F, 5, none⟩ = some (.bool ended) := by simp [World.cell?, hm.hF]
  have hrb : Rb W1.drew va xs.length vc xs := ⟨rd.1.drewN 1, gt_all rfl hm.by_⟩
  have hT2 : U8 W1.drew := hT1.below ((Below.refl _ _).drew)
  have hC := first_calls W1.drew va xs.length vc xs ended hrb hT2 (by omega)
  rw [← hf.out] at hC
  have hFl := hm.lt.1
  obtain ⟨n, hnn⟩ : ∃ n, Hid (n = xs.length) := ⟨_, rfl⟩
  rw [← hnn.out] at hC k0 hn hwd
  clear hrb hT2 rd hT1
  go_region_held3 (fun W => W.cell? ⟨F, 0, none⟩ = some (.slice va n vc) ∧ W.cell? ⟨F, 5, none⟩ = some (.bool ended)) (first | go_keep | exact ⟨by assumption, by assumption⟩) (first | (go_at_call 27; refine hC.mono ?_; rintro e w2 ⟨rfl, b2⟩; have c2 : Below W1.heap.size W1 w2 := (by first | exact b2 | exact ((Below.refl _ _).drew).trans b2); have x2 : w2.heap[F]? = _ := (c2.block F hFl).trans hm.hF; have y2 : w2.heap[w.heap.size]? = _ := (c2.block _ hRl).trans hR; have j0 : w2.cell? ⟨F, 0, none⟩ = some (.slice va xs.length vc) := (by simp [World.cell?, x2]); have j5 : w2.cell? ⟨F, 5, none⟩ = some (.bool ended) := (by simp [World.cell?, x2]); rw [← hnn.out] at j0))
  all_goals
    have k1 : w2.cell? ⟨F, 1, none⟩ = some (.int .i64 p1) := by simp [World.cell?, x2]
    have k2 : w2.cell? ⟨F, 2, none⟩ = some (.int .i64 p2) := by simp [World.cell?, x2]
    have k3 : w2.cell? ⟨F, 3, none⟩ = some (.int .i64 p3) := by simp [World.cell?, x2]
    have k4 : w2.cell? ⟨F, 4, none⟩ = some (.int .i64 p4) := by simp [World.cell?, x2]
    obtain ⟨R, hRR⟩ : ∃ R, Hid (R = w.heap.size) := ⟨_, rfl⟩
    have hbR : Below w.heap.size w w2 := hb1.trans (c2.mono hb1.size)
    have hRz : w.heap.size ≤ R := by rw [hRR.out]; exact Nat.le_refl _
    rw [← hRR.out] at y2 hne ⊢
    have r0 : w2.cell? ⟨R, 0, none⟩ = some (.int .i32 0) := by simp [World.cell?, y2]
    have r1 : w2.cell? ⟨R, 1, none⟩ = some (.int .i64 0) := by simp [World.cell?, y2]
    have r2 : w2.cell? ⟨R, 2, none⟩ = some (.int .i64 0) := by simp [World.cell?, y2]
    have r3 : w2.cell? ⟨R, 3, none⟩ = some (.int .i64 0) := by simp [World.cell?, y2]
    have r4 : w2.cell? ⟨R, 4, none⟩ = some (.int .i64 0) := by simp [World.cell?, y2]
    have r5 : w2.cell? ⟨R, 5, none⟩ = some (.int .i64 0) := by simp [World.cell?, y2]
    have z0 : ∀ i, w2.frozen? ⟨R, i, none⟩ = false := fun i => by simp [World.frozen?, y2]
    have hRlt : R < w2.heap.size := (Array.getElem?_eq_some_iff.1 y2).1
    clear hb1 c2 b2 hC j0 j5 x2 k0 k5 h hm hRl hFl
    obtain rfl | rfl | rfl | rfl : fh = 0 ∨ fh = 1 ∨ fh = 2 ∨ fh = 3 := by omega
    · go_wp2
      have hh := six_heap y2 (.int .i32 fr) (.int .i64 p1) (.int .i64 p2) (.int .i64 p3) (.int .i64 p4) (.int .i64 fn)
      have hb := six_below hbR hRz (.int .i32 fr) (.int .i64 p1) (.int .i64 p2) (.int .i64 p3) (.int .i64 p4) (.int .i64 fn)
      generalize ((((((w2.setCell ⟨R, 0, none⟩ (.int .i32 fr)).setCell ⟨R, 1, none⟩ (.int .i64 p1)).setCell ⟨R, 2, none⟩ (.int .i64 p2)).setCell ⟨R, 3, none⟩ (.int .i64 p3)).setCell ⟨R, 4, none⟩ (.int .i64 p4)).setCell ⟨R, 5, none⟩ (.int .i64 fn)) = V at hh hb ⊢
      have j0 : V.cell? ⟨R, 0, none⟩ = some (.int .i32 fr) := by simp [World.cell?, hh]
      have j1 : V.cell? ⟨R, 1, none⟩ = some (.int .i64 p1) := by simp [World.cell?, hh]
      have j2 : V.cell? ⟨R, 2, none⟩ = some (.int .i64 p2) := by simp [World.cell?, hh]
      have j3 : V.cell? ⟨R, 3, none⟩ = some (.int .i64 p3) := by simp [World.cell?, hh]
      have j4 : V.cell? ⟨R, 4, none⟩ = some (.int .i64 p4) := by simp [World.cell?, hh]
      have j5 : V.cell? ⟨R, 5, none⟩ = some (.int .i64 fn) := by simp [World.cell?, hh]
      refine ⟨rfl, .tuple #[.agg #[.int .i32 fr, .int .i64 p1, .int .i64 p2, .int .i64 p3, .int .i64 p4, .int .i64 fn], .int .i64 0], ?_, rfl, hb⟩
      simp [results, Tryd.f22, go_sem, j0, j1, j2, j3, j4, j5]
    · go_wp2
      have hh := six_heap y2 (.int .i32 0) (.int .i64 0) (.int .i64 0) (.int .i64 0) (.int .i64 0) (.int .i64 0)
      have hb := six_below hbR hRz (.int .i32 0) (.int .i64 0) (.int .i64 0) (.int .i64 0) (.int .i64 0) (.int .i64 0)
      generalize ((((((w2.setCell ⟨R, 0, none⟩ (.int .i32 0)).setCell ⟨R, 1, none⟩ (.int .i64 0)).setCell ⟨R, 2, none⟩ (.int .i64 0)).setCell ⟨R, 3, none⟩ (.int .i64 0)).setCell ⟨R, 4, none⟩ (.int .i64 0)).setCell ⟨R, 5, none⟩ (.int .i64 0)) = V at hh hb ⊢
      have j0 : V.cell? ⟨R, 0, none⟩ = some (.int .i32 0) := by simp [World.cell?, hh]
      have j1 : V.cell? ⟨R, 1, none⟩ = some (.int .i64 0) := by simp [World.cell?, hh]
      have j2 : V.cell? ⟨R, 2, none⟩ = some (.int .i64 0) := by simp [World.cell?, hh]
      have j3 : V.cell? ⟨R, 3, none⟩ = some (.int .i64 0) := by simp [World.cell?, hh]
      have j4 : V.cell? ⟨R, 4, none⟩ = some (.int .i64 0) := by simp [World.cell?, hh]
      have j5 : V.cell? ⟨R, 5, none⟩ = some (.int .i64 0) := by simp [World.cell?, hh]
      refine ⟨rfl, .tuple #[.agg #[.int .i32 0, .int .i64 0, .int .i64 0, .int .i64 0, .int .i64 0, .int .i64 0], .int .i64 1], ?_, rfl, hb⟩
      simp [results, Tryd.f22, go_sem, j0, j1, j2, j3, j4, j5]
    · go_upto_region 10 with fail
      have c3 : Below w2.heap.size w2 (w2.alloc (Obj.cells #[.int .i64 (p1 + fn), .int .i64 (p2 + fn), .int .i64 p3, .int .i64 (p4 + fn)] 27)) := (Below.refl _ _).alloc (Nat.le_refl _) _
      have y3 : (w2.alloc (Obj.cells #[.int .i64 (p1 + fn), .int .i64 (p2 + fn), .int .i64 p3, .int .i64 (p4 + fn)] 27)).heap[R]? = _ := (heap_alloc_old _ _ hRlt).trans y2
      have y4 := heap_alloc_new w2 (Obj.cells #[.int .i64 (p1 + fn), .int .i64 (p2 + fn), .int .i64 p3, .int .i64 (p4 + fn)] 27)
      have hb3 := hbR.trans (c3.mono hbR.size)
      generalize w2.alloc (Obj.cells #[.int .i64 (p1 + fn), .int .i64 (p2 + fn), .int .i64 p3, .int .i64 (p4 + fn)] 27) = W3 at c3 y3 y4 hb3 ⊢
      have q0 : W3.cell? ⟨w2.heap.size, 0, none⟩ = some (.int .i64 (p1 + fn)) := by simp [World.cell?, y4]
      have q1 : W3.cell? ⟨w2.heap.size, 1, none⟩ = some (.int .i64 (p2 + fn)) := by simp [World.cell?, y4]
      have q2 : W3.cell? ⟨w2.heap.size, 2, none⟩ = some (.int .i64 p3) := by simp [World.cell?, y4]
      have q3 : W3.cell? ⟨w2.heap.size, 3, none⟩ = some (.int .i64 (p4 + fn)) := by simp [World.cell?, y4]
      have s0 : W3.cell? ⟨R, 0, none⟩ = some (.int .i32 0) := by simp [World.cell?, y3]
      have s1 : W3.cell? ⟨R, 1, none⟩ = some (.int .i64 0) := by simp [World.cell?, y3]
      have s2 : W3.cell? ⟨R, 2, none⟩ = some (.int .i64 0) := by simp [World.cell?, y3]
      have s3 : W3.cell? ⟨R, 3, none⟩ = some (.int .i64 0) := by simp [World.cell?, y3]
      have s4 : W3.cell? ⟨R, 4, none⟩ = some (.int .i64 0) := by simp [World.cell?, y3]
      have s5 : W3.cell? ⟨R, 5, none⟩ = some (.int .i64 0) := by simp [World.cell?, y3]
      have s6 : ∀ i, W3.frozen? ⟨R, i, none⟩ = false := fun i => by simp [World.frozen?, y3]
      go_wp2
      have hh := six_heap y3 (.int .i32 0) (.int .i64 (p1 + fn)) (.int .i64 (p2 + fn)) (.int .i64 p3) (.int .i64 (p4 + fn)) (.int .i64 0)
      have hb := six_below hb3 hRz (.int .i32 0) (.int .i64 (p1 + fn)) (.int .i64 (p2 + fn)) (.int .i64 p3) (.int .i64 (p4 + fn)) (.int .i64 0)
      generalize ((((((W3.setCell ⟨R, 0, none⟩ (.int .i32 0)).setCell ⟨R, 1, none⟩ (.int .i64 (p1 + fn))).setCell ⟨R, 2, none⟩ (.int .i64 (p2 + fn))).setCell ⟨R, 3, none⟩ (.int .i64 p3)).setCell ⟨R, 4, none⟩ (.int .i64 (p4 + fn))).setCell ⟨R, 5, none⟩ (.int .i64 0)) = V at hh hb ⊢
      have j0 : V.cell? ⟨R, 0, none⟩ = some (.int .i32 0) := by simp [World.cell?, hh]
      have j1 : V.cell? ⟨R, 1, none⟩ = some (.int .i64 (p1 + fn)) := by simp [World.cell?, hh]
      have j2 : V.cell? ⟨R, 2, none⟩ = some (.int .i64 (p2 + fn)) := by simp [World.cell?, hh]
      have j3 : V.cell? ⟨R, 3, none⟩ = some (.int .i64 p3) := by simp [World.cell?, hh]
      have j4 : V.cell? ⟨R, 4, none⟩ = some (.int .i64 (p4 + fn)) := by simp [World.cell?, hh]
      have j5 : V.cell? ⟨R, 5, none⟩ = some (.int .i64 0) := by simp [World.cell?, hh]
      refine ⟨rfl, .tuple #[.agg #[.int .i32 0, .int .i64 (p1 + fn), .int .i64 (p2 + fn), .int .i64 p3, .int .i64 (p4 + fn), .int .i64 0], .int .i64 2], ?_, rfl, hb⟩
      simp [results, Tryd.f22, go_sem, j0, j1, j2, j3, j4, j5]
    · go_wp2
      have hh := six_heap y2 (.int .i32 0) (.int .i64 0) (.int .i64 0) (.int .i64 0) (.int .i64 0) (.int .i64 0)
      have hb := six_below hbR hRz (.int .i32 0) (.int .i64 0) (.int .i64 0) (.int .i64 0) (.int .i64 0) (.int .i64 0)
      generalize ((((((w2.setCell ⟨R, 0, none⟩ (.int .i32 0)).setCell ⟨R, 1, none⟩ (.int .i64 0)).setCell ⟨R, 2, none⟩ (.int .i64 0)).setCell ⟨R, 3, none⟩ (.int .i64 0)).setCell ⟨R, 4, none⟩ (.int .i64 0)).setCell ⟨R, 5, none⟩ (.int .i64 0)) = V at hh hb ⊢
      have j0 : V.cell? ⟨R, 0, none⟩ = some (.int .i32 0) := by simp [World.cell?, hh]
      have j1 : V.cell? ⟨R, 1, none⟩ = some (.int .i64 0) := by simp [World.cell?, hh]
      have j2 : V.cell? ⟨R, 2, none⟩ = some (.int .i64 0) := by simp [World.cell?, hh]
      have j3 : V.cell? ⟨R, 3, none⟩ = some (.int .i64 0) := by simp [World.cell?, hh]
      have j4 : V.cell? ⟨R, 4, none⟩ = some (.int .i64 0) := by simp [World.cell?, hh]
      have j5 : V.cell? ⟨R, 5, none⟩ = some (.int .i64 0) := by simp [World.cell?, hh]
      refine ⟨rfl, .tuple #[.agg #[.int .i32 0, .int .i64 0, .int .i64 0, .int .i64 0, .int .i64 0, .int .i64 0], .int .i64 3], ?_, rfl, hb⟩
      simp [results, Tryd.f22, go_sem, j0, j1, j2, j3, j4, j5]
end Go.Proofs.YtpkdbfnnbbkkiaaDoor
