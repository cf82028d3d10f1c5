/- kleene.order of formulas without parts: cmp.Compare, cmp.Or. -/
import Derived.Test.YtmdanfeilgeoaaaBase
import Derived.Deep.RegionHeld3
import Derived.Deep.RegionHeld
import Derived.Sort.Grow
namespace Gim
open Go Go.RowKit Go.Sort
/-- -1, 0 or 1 -/
def cmpZ (a b : Int) : Int := if a < b then -1 else if b < a then 1 else 0
/-- the first that is not 0 -/
def or3 (a b c : Int) : Int := if a = 0 then (if b = 0 then c else b) else a
/-- behind w there are draws and new blocks alone -/
def Grows (w w' : World) : Prop := ∃ q os, w' = grow (w.drewN q) os
theorem Grows.refl (w : World) : Grows w w := ⟨0, #[], by simp [World.drewN]⟩
theorem Grows.trans {a b c : World} (h : Grows a b) (k : Grows b c) : Grows a c := by
  obtain ⟨q, os, rfl⟩ := h
  obtain ⟨q', os', rfl⟩ := k
  exact ⟨q + q', os ++ os', by show grow (grow ((a.drewN q).drewN q') os) os' = _; rw [grow_grow, World.drewN_drewN]⟩
theorem Grows.alloc {a b : World} (h : Grows a b) (o : Obj) : Grows a (b.alloc o) := h.trans ⟨0, #[o], by rw [alloc_eq_grow]; rfl⟩
theorem Grows.drewN {a b : World} (h : Grows a b) (n : Nat) : Grows a (b.drewN n) := h.trans ⟨n, #[], by simp⟩
theorem Grows.drew {a b : World} (h : Grows a b) : Grows a b.drew := h.drewN 1
theorem Grows.below {a b : World} (h : Grows a b) : Below a.heap.size a b := by
  obtain ⟨q, os, rfl⟩ := h
  exact ⟨rfl, rfl, rfl, by simp [grow], fun k hk => by simp [grow]; exact Array.getElem?_append_left hk⟩
end Gim
namespace Go.Proofs.Ytmdanfeilgeoaaa
open Go.RowKit Gim Go.Sort
theorem nanFormulaOp_calls (a : Int) (w : World) : Calls Try.prog 75 #[.int .i64 a] w fun e w' => e = .returned (.bool false) ∧ w' = w := by
  go_enter Try.func75, Try.ntmps75
  go_wp2
  go_ret
  exact ⟨by simp, rfl⟩
theorem cmpFormulaOp_calls (a b : Int) (w : World) : Calls Try.prog 57 #[.int .i64 a, .int .i64 b] w fun e w' => e = .returned (.int .i64 (cmpZ a b)) ∧ w' = w := by
  have h1 := nanFormulaOp_calls a w
  have h2 := nanFormulaOp_calls b w
  have hc : cmpZ a b = if a < b then -1 else if b < a then 1 else 0 := rfl
  by_cases hab : a < b
  · rw [if_pos hab] at hc
    have HC := Lib.hid hc
    clear hc
    go_enter Try.func57, Try.ntmps57
    go_wp2_with fail
    refine h1.mono ?_
    rintro e w1 ⟨rfl, rfl⟩
    go_wp2_with fail
    refine h2.mono ?_
    rintro e w1 ⟨rfl, rfl⟩
    go_wp2_with fail
    go_ret
    exact ⟨by rw [HC.out]; rfl, rfl⟩
  · rw [if_neg hab] at hc
    by_cases hba : b < a
    · rw [if_pos hba] at hc
      have HC := Lib.hid hc
      clear hc
      go_enter Try.func57, Try.ntmps57
      go_wp2_with fail
      refine h1.mono ?_
      rintro e w1 ⟨rfl, rfl⟩
      go_wp2_with fail
      refine h2.mono ?_
      rintro e w1 ⟨rfl, rfl⟩
      go_wp2_with fail
      go_ret
      exact ⟨by rw [HC.out]; rfl, rfl⟩
    · rw [if_neg hba] at hc
      have HC := Lib.hid hc
      clear hc
      go_enter Try.func57, Try.ntmps57
      go_wp2_with fail
      refine h1.mono ?_
      rintro e w1 ⟨rfl, rfl⟩
      go_wp2_with fail
      refine h2.mono ?_
      rintro e w1 ⟨rfl, rfl⟩
      go_wp2_with fail
      go_ret
      exact ⟨by rw [HC.out]; rfl, rfl⟩
theorem nanTruth_calls (a : Int) (w : World) : Calls Try.prog 76 #[.int .i64 a] w fun e w' => e = .returned (.bool false) ∧ w' = w := by
  go_enter Try.func76, Try.ntmps76
  go_wp2
  go_ret
  exact ⟨by simp, rfl⟩
theorem cmpTruth_calls (a b : Int) (w : World) : Calls Try.prog 58 #[.int .i64 a, .int .i64 b] w fun e w' => e = .returned (.int .i64 (cmpZ a b)) ∧ w' = w := by
  have h1 := nanTruth_calls a w
  have h2 := nanTruth_calls b w
  have hc : cmpZ a b = if a < b then -1 else if b < a then 1 else 0 := rfl
  by_cases hab : a < b
  · rw [if_pos hab] at hc
    have HC := Lib.hid hc
    clear hc
    go_enter Try.func58, Try.ntmps58
    go_wp2_with fail
    refine h1.mono ?_
    rintro e w1 ⟨rfl, rfl⟩
    go_wp2_with fail
    refine h2.mono ?_
    rintro e w1 ⟨rfl, rfl⟩
    go_wp2_with fail
    go_ret
    exact ⟨by rw [HC.out]; rfl, rfl⟩
  · rw [if_neg hab] at hc
    by_cases hba : b < a
    · rw [if_pos hba] at hc
      have HC := Lib.hid hc
      clear hc
      go_enter Try.func58, Try.ntmps58
      go_wp2_with fail
      refine h1.mono ?_
      rintro e w1 ⟨rfl, rfl⟩
      go_wp2_with fail
      refine h2.mono ?_
      rintro e w1 ⟨rfl, rfl⟩
      go_wp2_with fail
      go_ret
      exact ⟨by rw [HC.out]; rfl, rfl⟩
    · rw [if_neg hba] at hc
      have HC := Lib.hid hc
      clear hc
      go_enter Try.func58, Try.ntmps58
      go_wp2_with fail
      refine h1.mono ?_
      rintro e w1 ⟨rfl, rfl⟩
      go_wp2_with fail
      refine h2.mono ?_
      rintro e w1 ⟨rfl, rfl⟩
      go_wp2_with fail
      go_ret
      exact ⟨by rw [HC.out]; rfl, rfl⟩
theorem nanInt_calls (a : Int) (w : World) : Calls Try.prog 77 #[.int .i64 a] w fun e w' => e = .returned (.bool false) ∧ w' = w := by
  go_enter Try.func77, Try.ntmps77
  go_wp2
  go_ret
  exact ⟨by simp, rfl⟩
theorem cmpInt_calls (a b : Int) (w : World) : Calls Try.prog 59 #[.int .i64 a, .int .i64 b] w fun e w' => e = .returned (.int .i64 (cmpZ a b)) ∧ w' = w := by
  have h1 := nanInt_calls a w
  have h2 := nanInt_calls b w
  have hc : cmpZ a b = if a < b then -1 else if b < a then 1 else 0 := rfl
  by_cases hab : a < b
  · rw [if_pos hab] at hc
    have HC := Lib.hid hc
    clear hc
    go_enter Try.func59, Try.ntmps59
    go_wp2_with fail
    refine h1.mono ?_
    rintro e w1 ⟨rfl, rfl⟩
    go_wp2_with fail
    refine h2.mono ?_
    rintro e w1 ⟨rfl, rfl⟩
    go_wp2_with fail
    go_ret
    exact ⟨by rw [HC.out]; rfl, rfl⟩
  · rw [if_neg hab] at hc
    by_cases hba : b < a
    · rw [if_pos hba] at hc
      have HC := Lib.hid hc
      clear hc
      go_enter Try.func59, Try.ntmps59
      go_wp2_with fail
      refine h1.mono ?_
      rintro e w1 ⟨rfl, rfl⟩
      go_wp2_with fail
      refine h2.mono ?_
      rintro e w1 ⟨rfl, rfl⟩
      go_wp2_with fail
      go_ret
      exact ⟨by rw [HC.out]; rfl, rfl⟩
    · rw [if_neg hba] at hc
      have HC := Lib.hid hc
      clear hc
      go_enter Try.func59, Try.ntmps59
      go_wp2_with fail
      refine h1.mono ?_
      rintro e w1 ⟨rfl, rfl⟩
      go_wp2_with fail
      refine h2.mono ?_
      rintro e w1 ⟨rfl, rfl⟩
      go_wp2_with fail
      go_ret
      exact ⟨by rw [HC.out]; rfl, rfl⟩
theorem cmpOr_calls (b : Nat) (x y z : Int) (cap : Nat) (w : World) (h : w.heap[b]? = some (.cells #[.int .i64 x, .int .i64 y, .int .i64 z] 3)) :
    Calls Try.prog 56 #[.slice (some ⟨b, 0, none⟩) 3 cap] w fun e w' => e = .returned (.int .i64 (or3 x y z)) ∧ w' = w := by
  have c0 : w.cell? ⟨b, 0, none⟩ = some (.int .i64 x) := by simp [World.cell?, h]
  have c1 : w.cell? ⟨b, 1, none⟩ = some (.int .i64 y) := by simp [World.cell?, h]
  have c2 : w.cell? ⟨b, 2, none⟩ = some (.int .i64 z) := by simp [World.cell?, h]
  have ho : or3 x y z = if x = 0 then (if y = 0 then z else y) else x := rfl
  clear h
  go_enter Try.func56, Try.ntmps56
  go_wp2_with fail
  refine wp_loop_rounds 4 ?_
  rw [rounds_succ]
  by_cases hx : x = 0
  · subst hx
    rw [if_pos rfl] at ho
    go_wp2_with fail
    rw [rounds_succ]
    by_cases hy : y = 0
    · subst hy
      rw [if_pos rfl] at ho
      go_wp2_with fail
      rw [rounds_succ]
      by_cases hz : z = 0
      · subst hz
        go_wp2_with fail
        rw [rounds_succ]
        go_wp2_with fail
        go_ret
        exact ⟨by rw [ho]; rfl, rfl⟩
      · have hz' : (z != 0) = true := by simpa using hz
        have HO := Lib.hid ho
        clear ho
        go_wp2_with fail
        go_ret
        exact ⟨by rw [HO.out]; rfl, rfl⟩
    · rw [if_neg hy] at ho
      have hy' : (y != 0) = true := by simpa using hy
      have HO := Lib.hid ho
      clear ho
      go_wp2_with fail
      go_ret
      exact ⟨by rw [HO.out]; rfl, rfl⟩
  · rw [if_neg hx] at ho
    have hx' : (x != 0) = true := by simpa using hx
    have HO := Lib.hid ho
    clear ho
    go_wp2_with fail
    go_ret
    exact ⟨by rw [HO.out]; rfl, rfl⟩
end Go.Proofs.Ytmdanfeilgeoaaa
