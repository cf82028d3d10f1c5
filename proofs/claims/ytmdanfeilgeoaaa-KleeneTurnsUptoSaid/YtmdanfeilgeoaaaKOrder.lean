/- kleene.order of two formulas without parts. -/
import Derived.Test.YtmdanfeilgeoaaaKCmp
import Derived.Deep.CutRange
import Derived.Deep.CutBlock
import Derived.Deep.RegionWith
import Derived.Deep.QuietTactic
namespace Gim
open Go Go.RowKit Go.Sort
/-- a formula without parts, as a value -/
def encV (x : Int × Int × Int) : List Value := [.int .i64 x.1, .int .i64 x.2.1, .int .i64 x.2.2, .slice none 0 0]
/-- how kleene.order compares two such -/
def ordV (x y : Int × Int × Int) : Int := or3 (cmpZ x.1 y.1) (cmpZ x.2.1 y.2.1) (cmpZ x.2.2 y.2.2)
end Gim
namespace Go.Proofs.Ytmdanfeilgeoaaa
open Go.RowKit Gim Go.Sort
theorem compareFunc_none (p q : Option Addr) (c d : Nat) (fv : Value) (w : World) :
    Calls Try.prog 60 #[.slice p 0 c, .slice q 0 d, fv] w fun e w' => e = .returned (.int .i64 0) ∧ w' = w := by
  go_enter Try.func60, Try.ntmps60
  go_wp2_with fail
  refine wp_loop_rounds 1 ?_
  rw [rounds_succ]
  go_wp2_with fail
  go_ret
  exact ⟨rfl, rfl⟩
theorem order_calls (x y : Int × Int × Int) (w : World) :
    Calls Try.prog 46 #[.agg #[.int .i64 x.1, .int .i64 x.2.1, .int .i64 x.2.2, .slice none 0 0], .agg #[.int .i64 y.1, .int .i64 y.2.1, .int .i64 y.2.2, .slice none 0 0]] w fun e w' => e = .returned (.int .i64 (ordV x y)) ∧ Grows w w' := by
  obtain ⟨x1, x2, x3⟩ := x
  obtain ⟨y1, y2, y3⟩ := y
  dsimp only [ordV]
  obtain ⟨c1, hc1⟩ : ∃ c1, cmpZ x1 y1 = c1 := ⟨_, rfl⟩
  obtain ⟨c2, hc2⟩ : ∃ c2, cmpZ x2 y2 = c2 := ⟨_, rfl⟩
  obtain ⟨c3, hc3⟩ : ∃ c3, cmpZ x3 y3 = c3 := ⟨_, rfl⟩
  have k1 := fun w => cmpFormulaOp_calls x1 y1 w
  have k2 := fun w => cmpTruth_calls x2 y2 w
  have k3 := fun w => cmpInt_calls x3 y3 w
  simp only [hc1, hc2, hc3] at k1 k2 k3 ⊢
  clear hc1 hc2 hc3
  obtain ⟨w0, hw0⟩ : ∃ w0, (w.alloc (.cells #[.int .i64 x1, .int .i64 x2, .int .i64 x3, .slice none 0 0] 26)).alloc (.cells #[.int .i64 y1, .int .i64 y2, .int .i64 y3, .slice none 0 0] 26) = w0 := ⟨_, rfl⟩
  have hg : Grows w w0 := by rw [← hw0]; exact ((Grows.refl w).alloc _).alloc _
  have hx : w0.heap[w.heap.size]? = some (.cells #[.int .i64 x1, .int .i64 x2, .int .i64 x3, .slice none 0 0] 26) := by rw [← hw0]; exact (heap_alloc_old _ _ (by simp)).trans (heap_alloc_new _ _)
  have hy : w0.heap[w.heap.size + 1]? = some (.cells #[.int .i64 y1, .int .i64 y2, .int .i64 y3, .slice none 0 0] 26) := by
    rw [← hw0]
    have := heap_alloc_new (w.alloc (.cells #[.int .i64 x1, .int .i64 x2, .int .i64 x3, .slice none 0 0] 26)) (.cells #[.int .i64 y1, .int .i64 y2, .int .i64 y3, .slice none 0 0] 26)
    rw [World.size_alloc] at this
    exact this
  have hsz : w0.heap.size = w.heap.size + 2 := by rw [← hw0]; simp
  go_enter Try.func46, Try.ntmps46
  go_upto_region 1 with fail
  try rw [hw0]
  clear hw0
  obtain ⟨B, hB⟩ : ∃ B, w.heap.size = B := ⟨_, rfl⟩
  rw [hB] at hx hy hsz ⊢
  have hcell : ∀ W : World, Grows w0 W → W.cell? ⟨B, 0, none⟩ = some (.int .i64 x1) ∧ W.cell? ⟨B, 1, none⟩ = some (.int .i64 x2) ∧ W.cell? ⟨B, 2, none⟩ = some (.int .i64 x3) ∧ W.cell? ⟨B + 1, 0, none⟩ = some (.int .i64 y1) ∧ W.cell? ⟨B + 1, 1, none⟩ = some (.int .i64 y2) ∧ W.cell? ⟨B + 1, 2, none⟩ = some (.int .i64 y3) ∧ W.cell? ⟨B, 3, none⟩ = some (.slice none 0 0) ∧ W.cell? ⟨B + 1, 3, none⟩ = some (.slice none 0 0) := fun W hW => by
    have h1 := (hW.below.block B (by omega)).trans hx
    have h2 := (hW.below.block (B + 1) (by omega)).trans hy
    simp [World.cell?, h1, h2]
  obtain ⟨q1, q2, q3, q4, q5, q6, q7, q8⟩ := hcell w0 (Grows.refl _)
  obtain ⟨d1, d2, d3, d4, d5, d6, d7, d8⟩ := hcell w0.drew (Grows.refl _).drew
  have HG := Lib.hid hg
  have HSZ := Lib.hid hsz
  have HC := Lib.hid hcell
  clear hg hsz hcell hx hy
  go_region_held3 (fun W => W.cell? ⟨B, 0, none⟩ = some (.int .i64 x1) ∧ W.cell? ⟨B, 1, none⟩ = some (.int .i64 x2) ∧ W.cell? ⟨B, 2, none⟩ = some (.int .i64 x3) ∧ W.cell? ⟨B + 1, 0, none⟩ = some (.int .i64 y1) ∧ W.cell? ⟨B + 1, 1, none⟩ = some (.int .i64 y2) ∧ W.cell? ⟨B + 1, 2, none⟩ = some (.int .i64 y3) ∧ W.cell? ⟨B, 3, none⟩ = some (.slice none 0 0) ∧ W.cell? ⟨B + 1, 3, none⟩ = some (.slice none 0 0)) (first | exact HC.out _ (Grows.refl _) | exact HC.out _ (Grows.refl _).drew | exact HC.out _ ((Grows.refl _).alloc _).drew | go_keep) (first
    | (go_at_call 57; refine (k1 _).mono ?_; rintro e wz ⟨rfl, rfl⟩)
    | (go_at_call 58; refine (k2 _).mono ?_; rintro e wz ⟨rfl, rfl⟩)
    | (go_at_call 59; refine (k3 _).mono ?_; rintro e wz ⟨rfl, rfl⟩)
    | (go_at_call 56; refine (cmpOr_calls w0.heap.size c1 c2 c3 _ (w0.alloc (.cells #[.int .i64 c1, .int .i64 c2, .int .i64 c3] 3)).drew (heap_alloc_new w0 _)).mono ?_; rintro e wz ⟨rfl, rfl⟩))
  have hgw : Grows w0 (w0.alloc (.cells #[.int .i64 c1, .int .i64 c2, .int .i64 c3] 3)).drew := ((Grows.refl _).alloc _).drew
  obtain ⟨p1, p2, p3, p4, p5, p6, p7, p8⟩ := HC.out _ hgw
  have HGW := Lib.hid (HG.out.trans hgw)
  clear q1 q2 q3 q4 q5 q6 q7 q8 d1 d2 d3 d4 d5 d6 d7 d8 hgw
  obtain ⟨r, hr⟩ : ∃ r, or3 c1 c2 c3 = r := ⟨_, rfl⟩
  have HR := Lib.hid hr
  rw [hr]
  clear hr
  by_cases h0 : r = 0
  · subst h0
    go_wp2_with fail
    refine (compareFunc_none none none 0 0 _ _).mono ?_
    rintro e wz ⟨rfl, rfl⟩
    go_wp2_with fail
    go_ret
    exact ⟨by rw [HR.out]; rfl, HGW.out⟩
  · have h0' : (r != 0) = true := by simpa using h0
    go_wp2_with fail
    go_ret
    exact ⟨by rw [HR.out]; rfl, HGW.out⟩
end Go.Proofs.Ytmdanfeilgeoaaa
