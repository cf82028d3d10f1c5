/- The walks of words.units, words.CompareUnits, words.Sub. -/
import Derived.Test.YtgajinnbmnnccaaOrd
namespace Gim
/-- the units of 16 bits of a character -/
def un1 (r : Int) : List Int := if 65535 < r then [55296 + (r - 65536) / 1024, 56320 + (r - 65536) % 1024] else [r]
def unI (l : List Int) : List Int := l.flatMap un1
theorem unI_snoc (l : List Int) (r : Int) : unI (l ++ [r]) = unI l ++ un1 r := by simp [unI]
theorem un1_length (r : Int) : (un1 r).length ≤ 2 := by unfold un1; split <;> simp
theorem unI_length : ∀ l : List Int, (unI l).length ≤ 2 * l.length
  | [] => by simp [unI]
  | a :: l => by
    have := un1_length a
    have ih := unI_length l
    simp only [unI, List.flatMap_cons, List.length_append, List.length_cons] at *
    omega
theorem take_step {l : List Int} {n : Nat} (h : n < l.length) : l.take (n + 1) = l.take n ++ [gt l n] := by
  rw [List.take_succ_eq_append_getElem h, gt_lt h]
/-- so many characters from that one on -/
def subI (l : List Int) (a c : Int) : List Int := if c ≤ 0 then [] else if a < 0 then l.take (a + c).toNat else (l.drop a.toNat).take c.toNat
end Gim
namespace Go.Proofs.Ytgajinnbmnnccaa
open Go.RowKit Gim

set_option maxRecDepth 100000 in
set_option maxHeartbeats 1000000 in
theorem sub (s : ByteArray) (a c : Int) (w : World) (hs : s.size ≤ 1099511627776) (ha : -9223372036854775808 ≤ a) (ha2 : a ≤ 9223372036854775807) (hc : -9223372036854775808 ≤ c) (hc2 : c ≤ 9223372036854775807) :
    Calls Try.prog 23 #[.string s, .int .i64 a, .int .i64 c] w fun e w' => e = .returned (.string (runesBytes (subI (rs s) a c))) ∧ Below w.heap.size w w' := by
  have ls := rs_length s
  obtain ⟨n, hn⟩ : ∃ m, Hid (m = (rs s).length) := ⟨_, rfl⟩
  rw [← hn.out] at ls
  by_cases h1 : c ≤ 0
  · have HV := Lib.hid (show subI (rs s) a c = [] by simp [subI, h1])
    go_enter Try.func23, Try.ntmps23
    go_wp2_with fail
    refine (wordsRunes _ _ hs).mono ?_
    rintro e w1 ⟨v1, rfl, hr1, hb1⟩
    obtain ⟨a1, c1, rfl, rd1⟩ := hr1.rd
    go_wp2
    go_ret
    exact ⟨by rw [HV.out]; rfl, hb1⟩
  · by_cases h2 : (n : Int) ≤ a
    · have HV := Lib.hid (show subI (rs s) a c = [] by
        have : ¬ a < 0 := by omega
        simp only [subI, h1, this, if_false]
        rw [List.drop_eq_nil_of_le (by rw [← hn.out]; omega)]
        simp)
      go_enter Try.func23, Try.ntmps23
      go_wp2_with fail
      refine (wordsRunes _ _ hs).mono ?_
      rintro e w1 ⟨v1, rfl, hr1, hb1⟩
      obtain ⟨a1, c1, rfl, rd1⟩ := hr1.rd
      rw [← hn.out] at rd1 ⊢
      go_wp2
      go_ret
      exact ⟨by rw [HV.out]; rfl, hb1⟩
    · by_cases h3 : a < 0
      · have HV := Lib.hid (show subI (rs s) a c = (rs s).take (a + c).toNat by simp only [subI, h1, h3, if_false, if_true])
        rcases (show a + c < 0 ∨ (0 ≤ a + c ∧ a + c < n) ∨ (n : Int) ≤ a + c by omega) with h4 | ⟨h4, h5⟩ | h4
        all_goals
          go_enter Try.func23, Try.ntmps23
          go_wp2_with fail
          refine (wordsRunes _ _ hs).mono ?_
          rintro e w1 ⟨v1, rfl, hr1, hb1⟩
          obtain ⟨a1, c1, rfl, rd1⟩ := hr1.rd
          rw [← hn.out] at rd1 ⊢
          have hnc := rd1.le
          have hcv0 := (rd1.take (m := 0) (by omega)).conv (P := Try.prog) (src := 41) (dst := 9) (e := 21) rfl rfl rfl
          have hcvn := (rd1.take (m := n) (by omega)).conv (P := Try.prog) (src := 41) (dst := 9) (e := 21) rfl rfl rfl
          have HN := Lib.hid (show (rs s).take n = rs s from List.take_of_length_le (by rw [← hn.out]; omega))
          clear hr1
        · have HV2 := Lib.hid (HV.out.trans (show (rs s).take (a + c).toNat = [] by rw [show (a + c).toNat = 0 by omega]; rfl))
          have HE : Hid (n = 0 → (rs s).take n = []) := fun h => by rw [h]; rfl
          simp only [List.take_zero] at hcv0
          go_wp2
          all_goals go_ret
          all_goals first
            | exact ⟨by rw [HV2.out]; rfl, hb1⟩
            | exact ⟨by rw [HV2.out, ← HE.out (by omega)]; rfl, hb1⟩
        · have hcvT := (rd1.take (m := (a + c).toNat) (by omega)).conv (P := Try.prog) (src := 41) (dst := 9) (e := 21) rfl rfl rfl
          go_wp2
          go_ret
          exact ⟨by rw [HV.out]; rfl, hb1⟩
        · have HV2 := Lib.hid (HV.out.trans (show (rs s).take (a + c).toNat = (rs s).take n by rw [HN.out, List.take_of_length_le (by rw [← hn.out]; omega)]))
          go_wp2
          go_ret
          exact ⟨by rw [HV2.out]; rfl, hb1⟩
      · obtain ⟨m, rfl⟩ := Int.eq_ofNat_of_zero_le (show 0 ≤ a by omega)
        obtain ⟨q, rfl⟩ := Int.eq_ofNat_of_zero_le (show 0 ≤ c by omega)
        have HV := Lib.hid (show subI (rs s) m q = ((rs s).drop m).take q by simp only [subI, h1, h3, if_false, Int.toNat_natCast])
        by_cases h4 : (q : Int) < n - m
        all_goals
          go_enter Try.func23, Try.ntmps23
          go_wp2_with fail
          refine (wordsRunes _ _ hs).mono ?_
          rintro e w1 ⟨v1, rfl, hr1, hb1⟩
          obtain ⟨a1, c1, rfl, rd1⟩ := hr1.rd
          rw [← hn.out] at rd1 ⊢
          have hnc := rd1.le
          clear hr1
        · have hcv := ((rd1.drop (m := m) (by omega)).take (m := q) (by omega)).conv (P := Try.prog) (src := 41) (dst := 9) (e := 21) rfl rfl rfl
          have hne : ¬ c1 = m := by omega
          rw [if_neg hne] at hcv
          go_wp2
          go_ret
          exact ⟨by rw [HV.out]; rfl, hb1⟩
        · have hcv := (rd1.drop (m := m) (by omega)).conv (P := Try.prog) (src := 41) (dst := 9) (e := 21) rfl rfl rfl
          have hne : ¬ c1 = m := by omega
          rw [if_neg hne] at hcv
          have HV2 := Lib.hid (HV.out.trans (List.take_of_length_le (by rw [List.length_drop, ← hn.out]; omega)))
          go_wp2
          go_ret
          exact ⟨by rw [HV2.out]; rfl, hb1⟩
end Go.Proofs.Ytgajinnbmnnccaa
