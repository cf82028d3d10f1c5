/- The classes lie in one another: plain laws. -/
import Derived.Test.YtianmebhmjdakaaDoorEnc
namespace Gim
open Go
def subR (l k : List (Int × Int)) : Bool := l.all fun p => k.any fun q => decide (q.1 ≤ p.1) && decide (p.2 ≤ q.2)
def apartR (l k : List (Int × Int)) : Bool := l.all fun p => k.all fun q => decide (p.2 < q.1) || decide (q.2 < p.1)
theorem isR_mem {r : Int} : ∀ {l : List (Int × Int)}, isR l r = true ↔ ∃ p ∈ l, p.1 ≤ r ∧ r ≤ p.2
  | [] => by simp [isR]
  | (x, y) :: t => by
    simp only [isR, List.mem_cons]
    by_cases h : x ≤ r ∧ r ≤ y
    · rw [if_pos h]; exact ⟨fun _ => ⟨_, .inl rfl, h⟩, fun _ => rfl⟩
    · rw [if_neg h, isR_mem]
      constructor
      · rintro ⟨p, hp, h1⟩; exact ⟨p, .inr hp, h1⟩
      · rintro ⟨p, rfl | hp, h1⟩
        · exact absurd h1 h
        · exact ⟨p, hp, h1⟩
theorem isF_mem {c r : Int} : isF (cls c) r = true ↔ ∃ p ∈ cls c, p.1 ≤ r ∧ r ≤ p.2 := by rw [is_same r (cls_rising c)]; exact isR_mem
theorem sub_is {c d r : Int} (h : subR (cls c) (cls d) = true) (hl : isF (cls c) r = true) : isF (cls d) r = true := by
  obtain ⟨p, hp, h1⟩ := isF_mem.1 hl
  obtain ⟨q, hq, h2⟩ := List.any_eq_true.1 (List.all_eq_true.1 h p hp)
  simp at h2
  exact isF_mem.2 ⟨q, hq, by omega⟩
theorem apart_is {c d r : Int} (h : apartR (cls c) (cls d) = true) (hl : isF (cls c) r = true) : isF (cls d) r = false := by
  obtain ⟨p, hp, h1⟩ := isF_mem.1 hl
  cases hd : isF (cls d) r
  · rfl
  · obtain ⟨q, hq, h2⟩ := isF_mem.1 hd
    have h3 := List.all_eq_true.1 (List.all_eq_true.1 h p hp) q hq
    simp at h3
    omega
theorem allowed_ch {r : Int} (h : isF (cls 0) r = true) : Ch r := by
  obtain ⟨p, hp, h1⟩ := isF_mem.1 h
  unfold Ch
  simp [cls] at hp
  rcases hp with rfl | rfl | rfl | rfl | rfl <;> simp at h1 <;> omega
/-- what of the six classes a character may belong to -/
theorem combos (r : Int) : ∃ al st re di he bl : Bool, al = isF (cls 0) r ∧ bl = isF (cls 1) r ∧ st = isF (cls 2) r ∧ re = isF (cls 3) r ∧ di = isF (cls 4) r ∧ he = isF (cls 5) r ∧
    ((al = false ∧ st = false ∧ re = false ∧ di = false ∧ he = false ∧ bl = false) ∨
     (al = true ∧ st = false ∧ re = false ∧ di = false ∧ he = false) ∨
     (al = true ∧ st = false ∧ re = true ∧ di = false ∧ bl = false) ∨
     (al = true ∧ st = true ∧ re = true ∧ di = false ∧ bl = false) ∨
     (al = true ∧ st = false ∧ re = true ∧ di = true ∧ he = true ∧ bl = false)) := by
  have h1 := @sub_is 2 3 r (by decide)
  have h2 := @sub_is 3 0 r (by decide)
  have h3 := @sub_is 4 5 r (by decide)
  have h4 := @sub_is 5 3 r (by decide)
  have h5 := @apart_is 4 2 r (by decide)
  have h6 := @apart_is 1 3 r (by decide)
  have h7 := @sub_is 1 0 r (by decide)
  refine ⟨_, _, _, _, _, _, rfl, rfl, rfl, rfl, rfl, rfl, ?_⟩
  revert h1 h2 h3 h4 h5 h6 h7
  generalize isF (cls 0) r = al
  generalize isF (cls 1) r = bl
  generalize isF (cls 2) r = st
  generalize isF (cls 3) r = re
  generalize isF (cls 4) r = di
  generalize isF (cls 5) r = he
  cases al <;> cases st <;> cases re <;> cases di <;> cases he <;> cases bl <;> simp
theorem one_list (r : Int) : (runesBytes [r]).data.toList = encs [r] := runesBytes_list [r]
theorem two_list (r : Int) : ((⟨#[97]⟩ : ByteArray) ++ runesBytes [r]).data.toList = encs [97, r] := by
  have h := one_list r
  have e : enc 97 = [97] := by decide
  simp only [encs, List.flatMap_cons, List.flatMap_nil, List.append_nil, e] at h ⊢
  rw [ByteArray.data_append, Array.toList_append, h]
theorem one_size {r : Int} (h : Ch r) : 0 < (runesBytes [r]).size ∧ (runesBytes [r]).size ≤ 4 := by
  have h1 := congrArg List.length (one_list r)
  rw [← Lib.size_eq] at h1
  have := enc_len h
  simp [encs] at h1
  omega
theorem two_size {r : Int} (h : Ch r) : 0 < ((⟨#[97]⟩ : ByteArray) ++ runesBytes [r]).size ∧ ((⟨#[97]⟩ : ByteArray) ++ runesBytes [r]).size ≤ 5 := by
  have h1 := congrArg List.length (two_list r)
  rw [← Lib.size_eq] at h1
  have := enc_len h
  have e : enc 97 = [97] := by decide
  simp only [encs, List.flatMap_cons, List.flatMap_nil, List.append_nil, e, List.length_append, List.length_cons, List.length_nil] at h1
  omega
theorem text_one {r : Int} (h : Ch r) : textsB (runesBytes [r]) = isF (cls 0) r := by
  obtain ⟨h1, h2⟩ := read_encs (l := [r]) (by simpa using h) (s := runesBytes [r]) (p := 0) (by rw [List.drop_zero]; exact one_list r)
  unfold textsB rs
  rw [h1, h2]
  simp [good]
theorem name_one {r : Int} (h : Ch r) : nameB (runesBytes [r]) = isF (cls 2) r := by
  obtain ⟨h1, h2⟩ := read_encs (l := [r]) (by simpa using h) (s := runesBytes [r]) (p := 0) (by rw [List.drop_zero]; exact one_list r)
  unfold nameB rs
  rw [h1, h2, decide_eq_true (one_size h).1]
  simp [good]
theorem name_two {r : Int} (h : Ch r) : nameB ((⟨#[97]⟩ : ByteArray) ++ runesBytes [r]) = isF (cls 3) r := by
  obtain ⟨h1, h2⟩ := read_encs (l := [97, r]) (by simp [h]; unfold Ch; omega) (s := (⟨#[97]⟩ : ByteArray) ++ runesBytes [r]) (p := 0) (by rw [List.drop_zero]; exact two_list r)
  unfold nameB rs
  rw [h1, h2, decide_eq_true (two_size h).1]
  have : isF (cls 2) 97 = true := by decide
  simp [good, this]
end Gim
