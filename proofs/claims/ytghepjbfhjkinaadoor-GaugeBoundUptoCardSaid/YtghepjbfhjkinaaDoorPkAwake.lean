/- gauge.Bound of the path that gimletlaw24.awake asks after, and all that it calls. -/
import Derived.Test.YtghepjbfhjkinaaDoorNames
import Derived.LoopN
namespace Gim
theorem nameB_a : nameB ⟨#[97]⟩ = true := by decide +kernel
end Gim
namespace Go.Proofs.YtghepjbfhjkinaaDoor
open Go.RowKit Gim
theorem idxExpr_none (fv : Value) (w : World) : Calls Tryd.prog 29 #[.slice none 0 0, fv] w fun e w' => e = .returned (.int .i64 (-1)) ∧ w' = w := by
  go_enter Tryd.func29, Tryd.ntmps29
  go_wp2_with fail
  refine wp_loop_rounds 1 ?_
  rw [rounds_succ]
  go_wp2_with fail
  go_ret
  exact ⟨rfl, rfl⟩
theorem contExpr_none (fv : Value) (w : World) : Calls Tryd.prog 23 #[.slice none 0 0, fv] w fun e w' => e = .returned (.bool false) ∧ w' = w := by
  go_enter Tryd.func23, Tryd.ntmps23
  go_wp2_with fail
  refine (idxExpr_none _ _).mono ?_
  rintro e w1 ⟨rfl, rfl⟩
  go_wp2_with fail
  go_ret
  exact ⟨rfl, rfl⟩
theorem goodStep_a (w : World) (hT : Laid w) : Calls Tryd.prog 19 #[.agg #[.int .i64 0, .int .i64 0, .string ⟨#[97]⟩, .slice none 0 0]] w fun e w' => e = .returned (.bool true) ∧ Below w.heap.size w w' := by
  have b0 : Below w.heap.size w (w.alloc (.cells #[.int .i64 0, .int .i64 0, .string ⟨#[97]⟩, .slice none 0 0] 37)) := (Below.refl _ _).alloc (Nat.le_refl _) _
  have x0 := heap_alloc_new w (.cells #[.int .i64 0, .int .i64 0, .string ⟨#[97]⟩, .slice none 0 0] 37)
  have hN := name_calls ⟨#[97]⟩ _ (by decide) (hT.below b0)
  rw [nameB_a] at hN
  have HB := Lib.hid b0
  have HX := Lib.hid x0
  clear hT b0 x0
  go_enter Tryd.func19, Tryd.ntmps19
  go_wp2_with fail
  refine hN.mono ?_
  rintro e w1 ⟨rfl, b1⟩
  have x1 := (b1.block _ (Array.getElem?_eq_some_iff.1 HX.out).1).trans HX.out
  have c1 : w1.cell? ⟨w.heap.size, 1, none⟩ = some (.int .i64 0) := by simp [World.cell?, x1]
  have c3 : w1.cell? ⟨w.heap.size, 3, none⟩ = some (.slice none 0 0) := by simp [World.cell?, x1]
  have HB1 := Lib.hid (HB.out.trans (b1.mono HB.out.size))
  clear hN x1 b1
  go_wp2_with fail
  refine (contExpr_none _ _).mono ?_
  rintro e wz ⟨rfl, rfl⟩
  go_wp2_with fail
  go_ret
  exact ⟨rfl, HB1.out⟩
theorem goodStep1_a (w : World) (hT : Laid w) : Calls Tryd.prog 18 #[.agg #[.int .i64 0, .int .i64 0, .string ⟨#[97]⟩, .slice none 0 0]] w fun e w' => e = .returned (.bool false) ∧ Below w.heap.size w w' := by
  have b0 : Below w.heap.size w (w.alloc (.cells #[.int .i64 0, .int .i64 0, .string ⟨#[97]⟩, .slice none 0 0] 37)) := (Below.refl _ _).alloc (Nat.le_refl _) _
  have hN := goodStep_a _ (hT.below b0)
  have HB := Lib.hid b0
  clear hT b0
  go_enter Tryd.func18, Tryd.ntmps18
  go_wp2_with fail
  refine hN.mono ?_
  rintro e w1 ⟨rfl, b1⟩
  have HB1 := Lib.hid (HB.out.trans (b1.mono HB.out.size))
  clear hN b1
  go_wp2_with fail
  go_ret
  exact ⟨rfl, HB1.out⟩
/-- block b holds the one step -/
def StepA (w : World) (b : Nat) : Prop := w.heap[b]? = some (.cells #[.int .i64 0, .int .i64 0, .string ⟨#[97]⟩, .slice none 0 0] 37)
theorem StepA.below {w w' : World} {b : Nat} (h : StepA w b) (hb : Below w.heap.size w w') : StepA w' b := (hb.block _ (Array.getElem?_eq_some_iff.1 h).1).trans h
theorem StepA.cells {w : World} {b : Nat} (h : StepA w b) : w.cell? ⟨b, 0, none⟩ = some (.int .i64 0) ∧ w.cell? ⟨b, 1, none⟩ = some (.int .i64 0) ∧ w.cell? ⟨b, 2, none⟩ = some (.string ⟨#[97]⟩) ∧ w.cell? ⟨b, 3, none⟩ = some (.slice none 0 0) := by
  have h' : w.heap[b]? = some (.cells #[.int .i64 0, .int .i64 0, .string ⟨#[97]⟩, .slice none 0 0] 37) := h
  simp [World.cell?, h']
theorem idxStep_a (b : Nat) (w : World) (hT : Laid w) (h : StepA w b) : Calls Tryd.prog 21 #[.slice (some ⟨b, 0, none⟩) 1 1, .func (.func 18) #[] #[]] w fun e w' => e = .returned (.int .i64 (-1)) ∧ Below w.heap.size w w' := by
  have eg : ∀ args w, (callFunc 18 args).run Tryd.prog w = .ok (.enter 18 args) w := enters_of Tryd.func18 (by kernel_rfl) rfl
  obtain ⟨c0, c1, c2, c3⟩ := h.cells
  have hN := goodStep1_a w hT
  go_enter Tryd.func21, Tryd.ntmps21
  go_wp2_with fail
  refine wp_loop_rounds 2 ?_
  rw [rounds_succ]
  go_wp2_with fail
  refine hN.mono ?_
  rintro e w1 ⟨rfl, b1⟩
  have HB1 := Lib.hid b1
  clear hN b1 c0 c1 c2 c3
  go_wp2_with fail
  rw [rounds_succ]
  go_wp2_with fail
  go_ret
  exact ⟨rfl, HB1.out⟩
theorem contStep_a (b : Nat) (w : World) (hT : Laid w) (h : StepA w b) : Calls Tryd.prog 17 #[.slice (some ⟨b, 0, none⟩) 1 1, .func (.func 18) #[] #[]] w fun e w' => e = .returned (.bool false) ∧ Below w.heap.size w w' := by
  have hN := idxStep_a b w hT h
  go_enter Tryd.func17, Tryd.ntmps17
  go_wp2_with fail
  refine hN.mono ?_
  rintro e w1 ⟨rfl, b1⟩
  clear hN
  go_wp2_with fail
  go_ret
  exact ⟨rfl, b1⟩
theorem goodPath_a (b : Nat) (w : World) (hT : Laid w) (h : StepA w b) : Calls Tryd.prog 14 #[.agg #[.slice (some ⟨b, 0, none⟩) 1 1]] w fun e w' => e = .returned (.bool true) ∧ Below w.heap.size w w' := by
  have b0 : Below w.heap.size w (w.alloc (.cells #[.slice (some ⟨b, 0, none⟩) 1 1] 24)) := (Below.refl _ _).alloc (Nat.le_refl _) _
  have hN := contStep_a b _ (hT.below b0) (h.below b0)
  have HB := Lib.hid b0
  clear hT b0 h
  go_enter Tryd.func14, Tryd.ntmps14
  go_wp2_with fail
  refine hN.mono ?_
  rintro e w1 ⟨rfl, b1⟩
  have HB1 := Lib.hid (HB.out.trans (b1.mono HB.out.size))
  clear hN b1
  go_wp2_with fail
  go_ret
  exact ⟨rfl, HB1.out⟩
theorem deepPath_a (b : Nat) (w : World) (h : StepA w b) : Calls Tryd.prog 15 #[.agg #[.slice (some ⟨b, 0, none⟩) 1 1]] w fun e w' => e = .returned (.int .i64 0) ∧ Below w.heap.size w w' := by
  have b0 : Below w.heap.size w (w.alloc (.cells #[.slice (some ⟨b, 0, none⟩) 1 1] 24)) := (Below.refl _ _).alloc (Nat.le_refl _) _
  obtain ⟨c0, c1, c2, c3⟩ := (h.below b0).cells
  have HB := Lib.hid b0
  clear b0 h
  go_enter Tryd.func15, Tryd.ntmps15
  go_wp2_with fail
  refine wp_loop_rounds 2 ?_
  rw [rounds_succ]
  go_wp2_with fail
  refine wp_loop_rounds 1 ?_
  rw [rounds_succ]
  go_wp2_with fail
  rw [rounds_succ]
  go_wp2_with fail
  go_ret
  exact ⟨rfl, HB.out.alloc HB.out.size _⟩
theorem sizePath_a (b : Nat) (w : World) (h : StepA w b) : Calls Tryd.prog 12 #[.agg #[.slice (some ⟨b, 0, none⟩) 1 1]] w fun e w' => e = .returned (.int .i64 1) ∧ Below w.heap.size w w' := by
  have b0 : Below w.heap.size w (w.alloc (.cells #[.slice (some ⟨b, 0, none⟩) 1 1] 24)) := (Below.refl _ _).alloc (Nat.le_refl _) _
  obtain ⟨c0, c1, c2, c3⟩ := (h.below b0).cells
  have HB := Lib.hid b0
  clear b0 h
  go_enter Tryd.func12, Tryd.ntmps12
  go_wp2_with fail
  refine wp_loop_rounds 2 ?_
  rw [rounds_succ]
  go_wp2_with fail
  refine wp_loop_rounds 1 ?_
  rw [rounds_succ]
  go_wp2_with fail
  rw [rounds_succ]
  go_wp2_with fail
  go_ret
  exact ⟨rfl, HB.out.alloc HB.out.size _⟩
theorem askCheck_a (b : Nat) (w : World) (hT : Laid w) (h : StepA w b) : Calls Tryd.prog 11 #[.agg #[.slice (some ⟨b, 0, none⟩) 1 1]] w fun e w' => e = .returned (.int .i64 0) ∧ Below w.heap.size w w' := by
  have b0 : Below w.heap.size w (w.alloc (.cells #[.slice (some ⟨b, 0, none⟩) 1 1] 24)) := (Below.refl _ _).alloc (Nat.le_refl _) _
  have x0 := heap_alloc_new w (.cells #[.slice (some ⟨b, 0, none⟩) 1 1] 24)
  have hN := goodPath_a b _ (hT.below b0) (h.below b0)
  have HS := Lib.hid (h.below b0)
  have HB := Lib.hid b0
  have HX := Lib.hid x0
  clear hT b0 h x0
  go_enter Tryd.func11, Tryd.ntmps11
  go_wp2_with fail
  refine hN.mono ?_
  rintro e w1 ⟨rfl, b1⟩
  have x1 := (b1.block _ (Array.getElem?_eq_some_iff.1 HX.out).1).trans HX.out
  have c1 : w1.cell? ⟨w.heap.size, 0, none⟩ = some (.slice (some ⟨b, 0, none⟩) 1 1) := by simp [World.cell?, x1]
  have hD := deepPath_a b w1 (HS.out.below b1)
  have HB1 := Lib.hid (HB.out.trans (b1.mono HB.out.size))
  clear hN b1 x1
  go_wp2_with fail
  refine hD.mono ?_
  rintro e w2 ⟨rfl, b2⟩
  have HB2 := Lib.hid (HB1.out.trans (b2.mono HB1.out.size))
  clear hD b2 c1
  go_wp2_with fail
  go_ret
  exact ⟨rfl, HB2.out⟩
theorem askSize_a (b : Nat) (w : World) (hT : Laid w) (h : StepA w b) : Calls Tryd.prog 7 #[.agg #[.slice (some ⟨b, 0, none⟩) 1 1]] w fun e w' => e = .returned (.tuple #[.int .i64 1, .int .i64 0]) ∧ Below w.heap.size w w' := by
  have b0 : Below w.heap.size w (w.alloc (.cells #[.slice (some ⟨b, 0, none⟩) 1 1] 24)) := (Below.refl _ _).alloc (Nat.le_refl _) _
  have x0 := heap_alloc_new w (.cells #[.slice (some ⟨b, 0, none⟩) 1 1] 24)
  have hN := askCheck_a b _ (hT.below b0) (h.below b0)
  have HS := Lib.hid (h.below b0)
  have HB := Lib.hid b0
  have HX := Lib.hid x0
  clear hT b0 h x0
  go_enter Tryd.func7, Tryd.ntmps7
  go_wp2_with fail
  refine hN.mono ?_
  rintro e w1 ⟨rfl, b1⟩
  have x1 := (b1.block _ (Array.getElem?_eq_some_iff.1 HX.out).1).trans HX.out
  have c1 : w1.cell? ⟨w.heap.size, 0, none⟩ = some (.slice (some ⟨b, 0, none⟩) 1 1) := by simp [World.cell?, x1]
  have hD := sizePath_a b w1 (HS.out.below b1)
  have HB1 := Lib.hid (HB.out.trans (b1.mono HB.out.size))
  clear hN b1 x1
  go_wp2_with fail
  refine hD.mono ?_
  rintro e w2 ⟨rfl, b2⟩
  have HB2 := Lib.hid (HB1.out.trans (b2.mono HB1.out.size))
  clear hD b2 c1
  go_wp2_with fail
  (try simp only [Exit.inBlock, Exit.then]); refine bodyPost_ret (results_tmp2 rfl _ _ _) rfl ?_
  exact ⟨rfl, HB2.out⟩
set_option maxHeartbeats 2000000 in
theorem mul_1_1 (w : World) : Calls Tryd.prog 10 #[.int .u64 1, .int .u64 1] w fun e w' => e = .returned (.tuple #[.int .u64 0, .int .u64 1]) ∧ w' = w := by
  go_enter Tryd.func10, Tryd.ntmps10
  go_wp2
  (try simp only [Exit.inBlock, Exit.then]); refine bodyPost_ret (results_tmp2 rfl _ _ _) rfl ?_
  exact ⟨rfl, rfl⟩
set_option maxHeartbeats 2000000 in
theorem mul_1_64 (w : World) : Calls Tryd.prog 10 #[.int .u64 1, .int .u64 64] w fun e w' => e = .returned (.tuple #[.int .u64 0, .int .u64 64]) ∧ w' = w := by
  go_enter Tryd.func10, Tryd.ntmps10
  go_wp2
  (try simp only [Exit.inBlock, Exit.then]); refine bodyPost_ret (results_tmp2 rfl _ _ _) rfl ?_
  exact ⟨rfl, rfl⟩
set_option maxHeartbeats 2000000 in
theorem bound_a (b : Nat) (w : World) (hT : Laid w) (h : StepA w b) : Calls Tryd.prog 6 #[.agg #[.slice (some ⟨b, 0, none⟩) 1 1], .int .i64 3] w fun e w' => e = .returned (.tuple #[.int .i64 64, .int .i64 0]) ∧ Below w.heap.size w w' := by
  have b0 : Below w.heap.size w (w.alloc (.cells #[.slice (some ⟨b, 0, none⟩) 1 1] 24)) := (Below.refl _ _).alloc (Nat.le_refl _) _
  have hN := askSize_a b _ (hT.below b0) (h.below b0)
  have HB := Lib.hid b0
  clear hT b0 h
  go_enter Tryd.func6, Tryd.ntmps6
  go_wp2_with fail
  refine hN.mono ?_
  rintro e w1 ⟨rfl, b1⟩
  have HB1 := Lib.hid (HB.out.trans (b1.mono HB.out.size))
  clear hN b1
  go_wp2_with fail
  refine (mul_1_1 _).mono ?_
  rintro e wz ⟨rfl, rfl⟩
  go_wp2_with fail
  refine (mul_1_64 _).mono ?_
  rintro e wz ⟨rfl, rfl⟩
  go_wp2_with fail
  (try simp only [Exit.inBlock, Exit.then]); refine bodyPost_ret (results_tmp2 rfl _ _ _) rfl ?_
  exact ⟨rfl, HB1.out⟩
end Go.Proofs.YtghepjbfhjkinaaDoor
