/- A character's bytes, cut anywhere, begin one: plain laws. -/
import Derived.Test.YtianmebhmjdakaaDoorBeginsWalk
import Derived.Test.YtianmebhmjdakaaDoorWithinLaw
import Derived.Lib.RuneBytes
namespace Gim
open Go
theorem encZ_bytesL {r : Int} (h : Ch r) : Lib.encodeRuneZ r = bytesL r := by
  unfold Ch at h
  unfold Lib.encodeRuneZ bytesL
  by_cases h1 : r < 128
  · rw [if_pos (by omega), if_pos h1]
  rw [if_neg (by omega), if_neg h1]
  by_cases h2 : r < 2048
  · rw [if_pos (by omega), if_pos h2]
  rw [if_neg (by omega), if_neg h2]
  by_cases h3 : r < 65536
  · rw [if_pos (by omega), if_pos h3]
  · rw [if_neg (by omega), if_neg h3, if_pos (by omega)]
theorem bytesL_length {r : Int} : 1 ≤ (bytesL r).length ∧ (bytesL r).length ≤ 4 := by
  unfold bytesL
  repeat' split
  all_goals simp
theorem span_in {r : Int} (h : Ch r) {k : Nat} (h1 : 1 ≤ k) (h2 : k ≤ (bytesL r).length) : (spanL ((bytesL r).take k)).1 ≤ r ∧ r ≤ (spanL ((bytesL r).take k)).2 := by
  unfold Ch at h
  by_cases c1 : r < 128
  · have hb : bytesL r = [r] := by rw [bytesL, if_pos c1]
    rw [hb] at h2 ⊢
    simp at h2
    obtain rfl : k = 1 := by omega
    obtain ⟨u1, u2, u3⟩ := wid1 (x := r) c1
    simp only [List.take_succ_cons, List.take_zero, spanL, List.length_nil, u1, u2, contR]
    rw [if_neg (by omega), if_neg (by omega), endS_one (by omega) (by omega)]
    exact ⟨Int.le_refl _, Int.le_refl _⟩
  by_cases c2 : r < 2048
  · have hb : bytesL r = [192 + r / 64, 128 + r % 64] := by rw [bytesL, if_neg c1, if_pos c2]
    rw [hb] at h2 ⊢
    simp at h2
    obtain ⟨u1, u2, u3⟩ := wid2 (x := 192 + r / 64) (by omega)
    rcases (by omega : k = 1 ∨ k = 2) with rfl | rfl
    · simp only [List.take_succ_cons, List.take_zero, spanL, List.length_nil, u1, u2, contR]
      rw [if_neg (by omega), if_neg (by omega)]
      simp only [endS, padLo, padHi, u3]
      constructor <;> split <;> omega
    · simp only [List.take_succ_cons, List.take_zero, spanL, List.length_nil, List.length_cons, u1, u2]
      rw [if_neg (by omega), if_neg (by omega), contR_ok (by omega), contR]
      simp only [endS, Nat.sub_self, padLo, padHi, u3]
      constructor <;> split <;> omega
  by_cases c3 : r < 65536
  · have hb : bytesL r = [224 + r / 4096, 128 + r / 64 % 64, 128 + r % 64] := by rw [bytesL, if_neg c1, if_neg c2, if_pos c3]
    rw [hb] at h2 ⊢
    simp at h2
    obtain ⟨u1, u2, u3⟩ := wid3 (x := 224 + r / 4096) (by omega)
    rcases (by omega : k = 1 ∨ k = 2 ∨ k = 3) with rfl | rfl | rfl
    · simp only [List.take_succ_cons, List.take_zero, spanL, List.length_nil, u1, u2, contR]
      rw [if_neg (by omega), if_neg (by omega)]
      simp only [endS, padLo, padHi, u3]
      constructor <;> split <;> omega
    · simp only [List.take_succ_cons, List.take_zero, spanL, List.length_nil, List.length_cons, u1, u2]
      rw [if_neg (by omega), if_neg (by omega), contR_ok (by omega), contR]
      simp only [endS, padLo, padHi, u3]
      constructor <;> split <;> omega
    · simp only [List.take_succ_cons, List.take_zero, spanL, List.length_nil, List.length_cons, u1, u2]
      rw [if_neg (by omega), if_neg (by omega), contR_ok (by omega), contR_ok (by omega), contR]
      simp only [endS, Nat.sub_self, padLo, padHi, u3]
      constructor <;> split <;> omega
  · have hb : bytesL r = [240 + r / 262144, 128 + r / 4096 % 64, 128 + r / 64 % 64, 128 + r % 64] := by rw [bytesL, if_neg c1, if_neg c2, if_neg c3]
    rw [hb] at h2 ⊢
    simp at h2
    obtain ⟨u1, u2, u3⟩ := wid4 (x := 240 + r / 262144) (by omega)
    rcases (by omega : k = 1 ∨ k = 2 ∨ k = 3 ∨ k = 4) with rfl | rfl | rfl | rfl
    · simp only [List.take_succ_cons, List.take_zero, spanL, List.length_nil, u1, u2, contR]
      rw [if_neg (by omega), if_neg (by omega)]
      simp only [endS, padLo, padHi, u3]
      constructor <;> split <;> omega
    · simp only [List.take_succ_cons, List.take_zero, spanL, List.length_nil, List.length_cons, u1, u2]
      rw [if_neg (by omega), if_neg (by omega), contR_ok (by omega), contR]
      simp only [endS, padLo, padHi, u3]
      constructor <;> split <;> omega
    · simp only [List.take_succ_cons, List.take_zero, spanL, List.length_nil, List.length_cons, u1, u2]
      rw [if_neg (by omega), if_neg (by omega), contR_ok (by omega), contR_ok (by omega), contR]
      simp only [endS, padLo, padHi, u3]
      constructor <;> split <;> omega
    · simp only [List.take_succ_cons, List.take_zero, spanL, List.length_nil, List.length_cons, u1, u2]
      rw [if_neg (by omega), if_neg (by omega), contR_ok (by omega), contR_ok (by omega), contR_ok (by omega), contR]
      simp only [endS, Nat.sub_self, padLo, padHi, u3]
      constructor <;> split <;> omega
theorem span_over {r : Int} : spanL (bytesL r ++ [128]) = (1, 0) := by
  by_cases c1 : r < 128
  · rw [show bytesL r = [r] from by rw [bytesL, if_pos c1]]
    rw [List.cons_append, spanL, (wid1 c1).1, if_neg (by simp), if_pos (by simp)]
  by_cases c2 : r < 2048
  · rw [show bytesL r = [192 + r / 64, 128 + r % 64] from by rw [bytesL, if_neg c1, if_pos c2]]
    rw [List.cons_append, spanL, (wid2 (x := 192 + r / 64) (by omega)).1, if_neg (by simp), if_pos (by simp)]
  by_cases c3 : r < 65536
  · rw [show bytesL r = [224 + r / 4096, 128 + r / 64 % 64, 128 + r % 64] from by rw [bytesL, if_neg c1, if_neg c2, if_pos c3]]
    rw [List.cons_append, spanL, (wid3 (x := 224 + r / 4096) (by omega)).1, if_neg (by simp), if_pos (by simp)]
  · rw [show bytesL r = [240 + r / 262144, 128 + r / 4096 % 64, 128 + r / 64 % 64, 128 + r % 64] from by rw [bytesL, if_neg c1, if_neg c2, if_neg c3]]
    rw [List.cons_append, spanL, if_pos (by simp)]
theorem hits_mem : ∀ {l : List (Int × Int)} {u v : Int}, hits l u v = true ↔ ∃ p ∈ l, p.1 ≤ v ∧ u ≤ p.2 ∧ u ≤ v
  | [], _, _ => by simp [hits]
  | (x, y) :: t, u, v => by
    rw [hits]
    by_cases h : x ≤ v ∧ u ≤ y ∧ u ≤ v
    · rw [if_pos h]
      exact ⟨fun _ => ⟨(x, y), List.mem_cons_self, h⟩, fun _ => rfl⟩
    · rw [if_neg h, hits_mem]
      constructor
      · rintro ⟨p, hp, e⟩
        exact ⟨p, List.mem_cons_of_mem _ hp, e⟩
      · rintro ⟨p, hp, e⟩
        rcases List.mem_cons.1 hp with rfl | hp
        · exact absurd e h
        · exact ⟨p, hp, e⟩
theorem hits_iff {c u v : Int} : hits (cls c) u v = true ↔ ∃ r, u ≤ r ∧ r ≤ v ∧ isF (cls c) r = true := by
  rw [hits_mem]
  constructor
  · rintro ⟨p, hp, h1, h2, h3⟩
    have := rising_mem (cls_rising c) hp
    refine ⟨max p.1 u, by omega, by omega, isF_mem.2 ⟨p, hp, by omega, by omega⟩⟩
  · rintro ⟨r, h1, h2, h3⟩
    obtain ⟨p, hp, h4, h5⟩ := isF_mem.1 h3
    exact ⟨p, hp, by omega, by omega, by omega⟩
theorem any_allowed {c r : Int} (h : isF (cls c) r = true) : isF (cls 0) r = true := by
  by_cases h0 : c = 0
  · subst h0; exact h
  by_cases h1 : c = 1
  · subst h1; exact sub_is (by decide) h
  by_cases h2 : c = 2
  · subst h2; exact sub_is (by decide) h
  by_cases h3 : c = 3
  · subst h3; exact sub_is (by decide) h
  by_cases h4 : c = 4
  · subst h4; exact sub_is (by decide) h
  by_cases h5 : c = 5
  · subst h5; exact sub_is (by decide) h
  have hc : cls c = [] := by unfold cls; repeat' (first | rfl | rw [if_neg (by assumption)])
  rw [hc] at h
  simp [isF] at h
theorem any_ch {c r : Int} (h : isF (cls c) r = true) : Ch r := allowed_ch (any_allowed h)
theorem beg_is {c r : Int} (h : isF (cls c) r = true) {k : Nat} (h1 : 1 ≤ k) (h2 : k ≤ (bytesL r).length) : begB c ((bytesL r).take k) = true := by
  have hs := span_in (any_ch h) h1 h2
  exact hits_iff.2 ⟨r, hs.1, hs.2, h⟩
theorem beg_over {c r : Int} : begB c (bytesL r ++ [128]) = false := by
  rw [begB, span_over]
  exact hits_none _ (by decide)
theorem beg_sub {c : Int} {xs : List Int} (h : begB c xs = true) : begB 0 xs = true := by
  obtain ⟨r, h1, h2, h3⟩ := hits_iff.1 h
  exact hits_iff.2 ⟨r, h1, h2, any_allowed h3⟩
end Gim
