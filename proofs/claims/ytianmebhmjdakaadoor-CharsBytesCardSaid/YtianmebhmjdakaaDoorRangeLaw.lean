/- A wrong byte in a text, and the character U+FFFD: plain laws. -/
import Derived.Test.YtianmebhmjdakaaDoorNameLaw
import Derived.Lib.MapLaws
namespace Gim
open Go
theorem dec_list (s : ByteArray) (p : Nat) : Utf8.decode s p = Lib.decodeL (s.data.toList.drop p) := (Lib.decodeL_drop s p).symm
theorem drop_ne {s : ByteArray} {p : Nat} (h : p < s.size) : s.data.toList.drop p ≠ [] := by
  intro e
  have := List.drop_eq_nil_iff.1 e
  have := Lib.size_eq s
  omega
/-- three bytes from place p on -/
def three (s : ByteArray) (p : Nat) : List UInt8 := (s.data.toList.drop p).take 3
theorem fffd_good {s : ByteArray} {p : Nat} (h : three s p = [239, 191, 189]) : (Utf8.decode s p).2 = 3 := by
  rw [dec_list]
  unfold three at h
  generalize s.data.toList.drop p = l at h
  match l, h with
  | a :: b :: c :: t, h =>
    simp only [List.take_succ_cons, List.take_zero, List.cons.injEq, and_true] at h
    obtain ⟨rfl, rfl, rfl⟩ := h
    rw [Lib.decodeL_N]
    have : 2 < (239 :: 191 :: 189 :: t : List UInt8).length := by simp
    have : 1 < (239 :: 191 :: 189 :: t : List UInt8).length := by simp
    generalize hn : (239 :: 191 :: 189 :: t : List UInt8).length = n at *
    simp only [List.getD_cons_zero, List.getD_cons_succ]
    simp [Lib.decodeN, *]
theorem fffd_bad {s : ByteArray} {p : Nat} (hp : p < s.size) (hr : (Utf8.decode s p).1 = 65533) (h : three s p ≠ [239, 191, 189]) : (Utf8.decode s p).2 = 1 := by
  rw [dec_list] at hr ⊢
  unfold three at h
  have hne := drop_ne hp
  generalize s.data.toList.drop p = l at *
  rcases Decidable.em ((Lib.decodeL l).2 = 1) with h1 | h1
  · exact h1
  · exfalso
    have e := Lib.encode_decode l hne (fun x => h1 x.2)
    rw [hr] at e
    have e2 : Lib.encodeRune ((65533 : Nat) : Int) = [239, 191, 189] := by decide
    rw [e2] at e
    have hle := Lib.decodeL_le l hne
    have hlen := congrArg List.length e
    simp at hlen
    have : (Lib.decodeL l).2 = 3 := by omega
    rw [this] at e
    exact h e.symm
theorem val_bad {s : ByteArray} {p : Nat} (hp : p < s.size) (hr : (Utf8.decode s p).1 = 65533) (h : three s p ≠ [239, 191, 189]) : val s p = false := by
  rw [val_next hp, if_pos ⟨hr, fffd_bad hp hr h⟩]
theorem val_good {s : ByteArray} {p : Nat} (hp : p < s.size) (h : (Utf8.decode s p).1 ≠ 65533 ∨ three s p = [239, 191, 189]) : val s p = val s (p + (Utf8.decode s p).2) := by
  rw [val_next hp, if_neg]
  rintro ⟨h1, h2⟩
  rcases h with h | h
  · exact h h1
  · rw [fffd_good h] at h2; omega
theorem three_short {s : ByteArray} {p : Nat} (h : s.size < p + 3) : three s p ≠ [239, 191, 189] := by
  intro e
  have := congrArg List.length e
  have h2 := Lib.size_eq s
  unfold three at this
  simp at this
  omega
theorem three_extract {s : ByteArray} {p : Nat} : (s.extract p (p + 3)).data.toList = three s p := by
  unfold three
  simp [ByteArray.data_extract, Array.toList_extract, List.extract]
end Gim
