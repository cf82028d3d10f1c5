/- ask.Check, ask.Size and gauge.Bound of any path. -/
import Derived.Test.YtghepjbfhjkinaaDoorQGood2
import Derived.Test.YtghepjbfhjkinaaDoorQSize
import Derived.Test.YtghepjbfhjkinaaDoorQDeep
import Derived.Test.YtghepjbfhjkinaaDoorQRest
namespace Gim
open Go Go.RowKit
def okP (sts : List St) : Bool := gdP sts && decide (dpIn 0 sts ≤ 200)
def szP (sts : List St) : Nat := sts.length + szIn sts
theorem szP_le (sts : List St) : szP sts ≤ wTL sts := szIn_le sts
theorem sq_small {s K : Nat} (hs : s ≤ 262144) (hK : K ≤ 1600016) : s * s ≤ 68719476736 ∧ K * s ≤ 419434594304 ∧ K * (s * s) ≤ 109952262289227776 ∧ K * s * s = K * (s * s) := by
  have h1 := Nat.mul_le_mul hs hs
  have h2 := Nat.mul_le_mul hK hs
  have h3 := Nat.mul_le_mul hK h1
  exact ⟨h1, h2, h3, Nat.mul_assoc K s s⟩
theorem wrapU (x : Int) (h : 0 ≤ x) (h2 : x < 18446744073709551616) : IntKind.u64.wrap x = x := by
  simp [IntKind.wrap, IntKind.bits, IntKind.signed]
  omega
theorem wrapI (x : Int) (h : 0 ≤ x) (h2 : x < 9223372036854775808) : IntKind.i64.wrap x = x := by
  simp [IntKind.wrap, IntKind.bits, IntKind.signed]
  omega
theorem wrap64s (x : Int) (h : 0 ≤ x) (h2 : x < 9223372036854775808) : wrap64 x = x := by
  unfold wrap64
  omega
theorem bound_facts {s D K P T : Nat} (hs : s ≤ 262144) (hD : D ≤ 100000) (hK : 16 * (D + 1) = K) (hP : P ≤ 68719476736) (hT : T ≤ 109952262289227776) :
    IntKind.u64.wrap (s : Int) = s ∧ wrap64 ((D : Int) + 1) = D + 1 ∧ IntKind.u64.wrap ((D : Int) + 1) = D + 1 ∧ IntKind.u64.wrap (16 * ((D : Int) + 1)) = K ∧ IntKind.i64.wrap (T : Int) = T ∧ ¬ 4611686018427387904 < (P : Int) ∧ ¬ 4611686018427387904 < (T : Int) :=
  ⟨wrapU _ (by omega) (by omega), wrap64s _ (by omega) (by omega), wrapU _ (by omega) (by omega), (wrapU _ (by omega) (by omega)).trans (by omega), wrapI _ (by omega) (by omega), by omega, by omega⟩
end Gim
namespace Go.Proofs.YtghepjbfhjkinaaDoor
open Go.RowKit Gim
theorem askCheck_calls (sts : List St) (a : Option Addr) (n cap : Nat) (w : World) (hF : FitTS w sts a n cap) (hw : wTL sts ≤ 1152921504606846976) (hT : Laid w) :
    Calls Tryd.prog 11 #[.agg #[.slice a n cap]] w fun e w' => e = .returned (.int .i64 (if okP sts = true then 0 else 6)) ∧ Below w.heap.size w w' := by
  have b0 : Below w.heap.size w (w.alloc (.cells #[.slice a n cap] 24)) := (Below.refl _ _).alloc (Nat.le_refl _) _
  have x0 := heap_alloc_new w (.cells #[.slice a n cap] 24)
  have hP := goodPath_all sts a n cap _ (hF.below b0) (hT.below b0) (by omega)
  have hD := fun W (hg : gdP sts = true) (hb : Below w.heap.size w W) => deepPath_all sts a n cap W (hF.below hb) hw hg
  have HB := Lib.hid b0
  have HX := Lib.hid x0
  unfold okP
  clear hF hT b0 x0
  cases hg : gdP sts
  · rw [hg] at hP
    clear hD hg
    go_enter Tryd.func11, Tryd.ntmps11
    go_wp2_with fail
    refine hP.mono ?_
    rintro e w1 ⟨rfl, b1⟩
    have HB1 := Lib.hid (HB.out.trans (b1.mono HB.out.size))
    clear hP b1
    go_wp2_with fail
    go_ret
    exact ⟨rfl, HB1.out⟩
  · have hD1 := fun W => hD W hg
    rw [hg] at hP
    obtain ⟨d, hd⟩ : ∃ d, dpIn 0 sts = d := ⟨_, rfl⟩
    simp only [hd] at hD1 ⊢
    have HD := Lib.hid hD1
    clear hD hg hD1 hd
    by_cases h2 : d ≤ 200
    · rw [show decide (d ≤ 200) = true by simp [h2]]
      simp only [Bool.true_and, if_true]
      have h3 : ¬ 200 < d := by omega
      go_enter Tryd.func11, Tryd.ntmps11
      go_wp2_with fail
      refine hP.mono ?_
      rintro e w1 ⟨rfl, b1⟩
      have hx := (b1.block _ (Array.getElem?_eq_some_iff.1 HX.out).1).trans HX.out
      have k0 : w1.cell? ⟨w.heap.size, 0, none⟩ = some (.slice a n cap) := by simp [World.cell?, hx]
      have HB1 := Lib.hid (HB.out.trans (b1.mono HB.out.size))
      have hC := HD.out w1 HB1.out
      clear hP b1 hx
      go_wp2_with fail
      refine hC.mono ?_
      rintro e w2 ⟨rfl, b2⟩
      have HB2 := Lib.hid (HB1.out.trans (b2.mono HB1.out.size))
      clear hC b2 k0
      go_wp2_with fail
      go_ret
      exact ⟨rfl, HB2.out⟩
    · rw [show decide (d ≤ 200) = false by simp; omega]
      simp only [Bool.and_false, Bool.false_eq_true, if_false]
      have h3 : 200 < d := by omega
      go_enter Tryd.func11, Tryd.ntmps11
      go_wp2_with fail
      refine hP.mono ?_
      rintro e w1 ⟨rfl, b1⟩
      have hx := (b1.block _ (Array.getElem?_eq_some_iff.1 HX.out).1).trans HX.out
      have k0 : w1.cell? ⟨w.heap.size, 0, none⟩ = some (.slice a n cap) := by simp [World.cell?, hx]
      have HB1 := Lib.hid (HB.out.trans (b1.mono HB.out.size))
      have hC := HD.out w1 HB1.out
      clear hP b1 hx
      go_wp2_with fail
      refine hC.mono ?_
      rintro e w2 ⟨rfl, b2⟩
      have HB2 := Lib.hid (HB1.out.trans (b2.mono HB1.out.size))
      clear hC b2 k0
      go_wp2_with fail
      go_ret
      exact ⟨rfl, HB2.out⟩
theorem askSize_calls (sts : List St) (a : Option Addr) (n cap : Nat) (w : World) (hF : FitTS w sts a n cap) (hw : wTL sts ≤ 1152921504606846976) (hT : Laid w) :
    Calls Tryd.prog 7 #[.agg #[.slice a n cap]] w fun e w' => e = .returned (.tuple #[.int .i64 (if okP sts = true then (szP sts : Int) else 0), .int .i64 (if okP sts = true then 0 else 6)]) ∧ Below w.heap.size w w' := by
  have b0 : Below w.heap.size w (w.alloc (.cells #[.slice a n cap] 24)) := (Below.refl _ _).alloc (Nat.le_refl _) _
  have x0 := heap_alloc_new w (.cells #[.slice a n cap] 24)
  have hP := askCheck_calls sts a n cap _ (hF.below b0) hw (hT.below b0)
  have hD := fun W (hb : Below w.heap.size w W) => sizePath_all sts a n cap W (hF.below hb) hw
  have HB := Lib.hid b0
  have HX := Lib.hid x0
  have HD := Lib.hid hD
  clear hF hT b0 x0 hD hw
  cases hg : okP sts
  · rw [hg] at hP
    simp only [Bool.false_eq_true, if_false] at hP ⊢
    clear hg HD
    go_enter Tryd.func7, Tryd.ntmps7
    go_wp2_with fail
    refine hP.mono ?_
    rintro e w1 ⟨rfl, b1⟩
    have HB1 := Lib.hid (HB.out.trans (b1.mono HB.out.size))
    clear hP b1
    go_wp2_with fail
    (try simp only [Exit.inBlock, Exit.then]); refine bodyPost_ret (results_tmp2 rfl _ _ _) rfl ?_
    exact ⟨rfl, HB1.out⟩
  · rw [hg] at hP
    simp only [if_true] at hP ⊢
    have HS := Lib.hid (show sts.length + szIn sts = szP sts from rfl)
    clear hg
    go_enter Tryd.func7, Tryd.ntmps7
    go_wp2_with fail
    refine hP.mono ?_
    rintro e w1 ⟨rfl, b1⟩
    have hx := (b1.block _ (Array.getElem?_eq_some_iff.1 HX.out).1).trans HX.out
    have k0 : w1.cell? ⟨w.heap.size, 0, none⟩ = some (.slice a n cap) := by simp [World.cell?, hx]
    have HB1 := Lib.hid (HB.out.trans (b1.mono HB.out.size))
    have hC := HD.out w1 HB1.out
    rw [HS.out] at hC
    clear hP b1 hx
    go_wp2_with fail
    refine hC.mono ?_
    rintro e w2 ⟨rfl, b2⟩
    have HB2 := Lib.hid (HB1.out.trans (b2.mono HB1.out.size))
    clear hC b2 k0
    go_wp2_with fail
    (try simp only [Exit.inBlock, Exit.then]); refine bodyPost_ret (results_tmp2 rfl _ _ _) rfl ?_
    exact ⟨rfl, HB2.out⟩
theorem mul64_calls (x y : Nat) (w : World) (h : x * y < 18446744073709551616) (hx : x < 18446744073709551616) (hy : y < 18446744073709551616) : Calls Tryd.prog 10 #[.int .u64 x, .int .u64 y] w fun e w' => e = .returned (.tuple #[.int .u64 0, .int .u64 ((x * y : Nat) : Int)]) ∧ w' = w := by
  have hM := Any.bits_Mul64 laysMul64 x y hx hy w
  rw [Nat.div_eq_of_lt h, Nat.mod_eq_of_lt h] at hM
  exact hM
end Go.Proofs.YtghepjbfhjkinaaDoor
