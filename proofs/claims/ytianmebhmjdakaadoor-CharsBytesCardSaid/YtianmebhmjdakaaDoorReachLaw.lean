/- chars.reach and the document's Span: plain laws. -/
import Derived.Test.YtianmebhmjdakaaDoorSpanWalk
import Derived.Laws.BitsAllLaws
import Derived.Laws.DeepBits32
namespace Gim
set_option linter.unusedSimpArgs false
open Go
theorem and192 : ∀ y : Fin 256, (y.val &&& 192) = y.val / 64 * 64 := by decide +kernel
theorem u8_and192 {y : Int} (h0 : 0 ≤ y) (h1 : y ≤ 255) : bits .and .u8 y 192 = y / 64 * 64 := by
  obtain ⟨n, rfl⟩ := Int.eq_ofNat_of_zero_le h0
  have h := and192 ⟨n, by omega⟩
  rw [show (192 : Int) = ((192 : Nat) : Int) from rfl, u8_and_nat n 192 (by omega) (by omega)]
  simp only [] at h
  rw [h]
  omega
theorem i32_andNot63 {x : Int} (h0 : 0 ≤ x) (h1 : x < 2147483648) (hx : x % 64 = 63) : bits .andNot .i32 x 63 = x - 63 := by
  obtain ⟨n, rfl⟩ := Int.eq_ofNat_of_zero_le h0
  show IntKind.i32.wrap ((BitVec.ofInt 32 (n : Int) &&& ~~~BitVec.ofInt 32 63).toNat : Int) = _
  have h2 : (BitVec.ofInt 32 63).toNat = 63 := by decide
  rw [BitVec.toNat_and, BitVec.toNat_not, ofInt_u32 n (by omega), h2, show 2 ^ 32 - 1 - 63 = 4294967232 by decide, Nat.and_comm, nat_hi32_6']
  rw [wrap_i32_small _ (by omega) (by omega)]
  omega
/-- what is left of reach's loop: k rounds, the bytes t, the ends so far -/
def goR : Nat → List Int → Int → Int → Option (Int × Int)
  | 0, _, a, b => some (a, b)
  | k + 1, [], a, b => goR k [] (a * 64) (b * 64 + 63)
  | k + 1, y :: t, a, b => if y < 128 ∨ 191 < y then none else goR k t (a * 64 + (y - 128)) (b * 64 + (y - 128))
theorem goR_pad : ∀ (k : Nat) (a b : Int), goR k [] a b = some (padLo k a, padHi k b)
  | 0, _, _ => rfl
  | k + 1, a, b => by rw [goR, goR_pad k, padLo, padHi]
theorem goR_eq : ∀ (k : Nat) (t : List Int) (a : Int), t.length ≤ k → goR k t a a = (contR t a).map fun f => (padLo (k - t.length) f, padHi (k - t.length) f)
  | 0, [], a, _ => rfl
  | 0, _ :: _, _, h => by simp at h
  | k + 1, [], a, _ => by rw [goR_pad]; rfl
  | k + 1, y :: t, a, h => by
    rw [goR, contR]
    by_cases hy : y < 128 ∨ 191 < y
    · rw [if_pos hy, if_pos hy]; rfl
    · rw [if_neg hy, if_neg hy, goR_eq k t _ (by simpa using h)]
      simp
/-- how reach's answer stands to the document's -/
def Meets (s : Int × Int) (a b : Int) (ok : Bool) : Prop := (ok = true ∧ s = (a, b)) ∨ (ok = false ∧ s.2 < s.1)
theorem meets_none {xs : List Int} {x : Int} {n W : Nat} (hs : spanL xs = endS x (W - n) (contR (xs.drop 1) (fst0 x))) (hl : xs.length = n) (h1 : 1 ≤ n) (hW : n ≤ W) (hg : goR (W - 1) (xs.drop 1) (fst0 x) (fst0 x) = none) : (spanL xs).2 < (spanL xs).1 := by
  rw [goR_eq _ _ _ (by rw [List.length_drop]; omega)] at hg
  cases hc : contR (xs.drop 1) (fst0 x) with
  | none => rw [hs, hc]; exact (by decide : (0 : Int) < 1)
  | some f => rw [hc] at hg; simp at hg
theorem meets_some {xs : List Int} {x a b : Int} {n W : Nat} (hs : spanL xs = endS x (W - n) (contR (xs.drop 1) (fst0 x))) (hl : xs.length = n) (h1 : 1 ≤ n) (hW : n ≤ W) (hg : goR (W - 1) (xs.drop 1) (fst0 x) (fst0 x) = some (a, b)) :
    spanL xs = (if a ≤ lst0 x then lst0 x else a, if b ≤ 1114111 then b else 1114111) := by
  rw [goR_eq _ _ _ (by rw [List.length_drop]; omega)] at hg
  cases hc : contR (xs.drop 1) (fst0 x) with
  | none => rw [hc] at hg; simp at hg
  | some f =>
    rw [hc] at hg
    simp only [Option.map_some, Option.some.injEq, Prod.mk.injEq, List.length_drop, hl] at hg
    rw [show W - 1 - (n - 1) = W - n from by omega] at hg
    rw [hs, hc, ← hg.1, ← hg.2]
    rfl
theorem span_low {xs : List Int} {x : Int} {n : Nat} (hl : xs.length = n) (hx : gt xs 0 = x) (h1 : 1 ≤ n) (h4 : n ≤ 4) (hb : ∀ j, j < n → 0 ≤ gt xs j ∧ gt xs j ≤ 255) (h : 128 ≤ x ∧ x < 194 ∨ 244 < x) : (spanL xs).2 < (spanL xs).1 := by
  rw [spanL_head hl hx h1 h4]
  by_cases c1 : x < 192 ∨ 247 < x
  · rw [if_pos (by unfold wid; rw [if_neg (by omega), if_neg (by omega), if_neg (by omega), if_neg (by omega)]; omega)]; decide
  by_cases c2 : x < 194
  · obtain ⟨u1, u2, u3⟩ := wid2 (x := x) (by omega)
    rw [u1, u2]
    split
    · decide
    · match xs, hl, hx with
      | [a], hl, hx =>
        simp at hl; subst hl
        simp only [List.drop_succ_cons, List.drop_zero, contR, endS, Nat.reduceSub, padLo, padHi, u3]
        repeat' split
        all_goals omega
      | [a, y], hl, hx =>
        simp at hl; subst hl
        simp only [List.drop_succ_cons, List.drop_zero, contR]
        split
        · exact (by decide : (0 : Int) < 1)
        · simp only [endS, Nat.sub_self, Nat.reduceSub, padLo, padHi, u3]
          repeat' split
          all_goals omega
      | a :: y :: z :: t, hl, hx => simp at hl; omega
      | [], hl, hx => simp at hl; omega
  · obtain ⟨u1, u2, u3⟩ := wid4 (x := x) (by omega)
    rw [u1, u2]
    split
    · decide
    · match xs, hl, hx with
      | [a], hl, hx =>
        simp at hl; subst hl
        simp only [List.drop_succ_cons, List.drop_zero, contR, endS, Nat.reduceSub, padLo, padHi, u3]
        repeat' split
        all_goals omega
      | [a, y], hl, hx =>
        simp at hl; subst hl
        simp only [List.drop_succ_cons, List.drop_zero, contR]
        split
        · exact (by decide : (0 : Int) < 1)
        · simp only [endS, Nat.sub_self, Nat.reduceSub, padLo, padHi, u3]
          repeat' split
          all_goals omega
      | [a, y, z], hl, hx =>
        simp at hl; subst hl
        simp only [List.drop_succ_cons, List.drop_zero, contR]
        split
        · exact (by decide : (0 : Int) < 1)
        · split
          · exact (by decide : (0 : Int) < 1)
          · simp only [endS, Nat.sub_self, Nat.reduceSub, padLo, padHi, u3]
            repeat' split
            all_goals omega
      | [a, y, z, v], hl, hx =>
        simp at hl; subst hl
        simp only [List.drop_succ_cons, List.drop_zero, contR]
        split
        · exact (by decide : (0 : Int) < 1)
        · split
          · exact (by decide : (0 : Int) < 1)
          · split
            · exact (by decide : (0 : Int) < 1)
            · simp only [endS, Nat.sub_self, Nat.reduceSub, padLo, padHi, u3]
              repeat' split
              all_goals omega
      | a :: y :: z :: v :: u :: t, hl, hx => simp at hl; omega
      | [], hl, hx => simp at hl; omega
end Gim
