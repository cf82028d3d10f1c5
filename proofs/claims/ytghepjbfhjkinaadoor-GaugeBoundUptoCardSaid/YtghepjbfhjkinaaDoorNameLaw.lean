/- Names and texts: plain laws. -/
import Derived.Test.YtghepjbfhjkinaaDoorCls
import Derived.Lib.ValidLaws
import Derived.Lib.TrimUEq
namespace Gim
open Go
/-- the bytes from place p on are characters -/
def val (s : ByteArray) (p : Nat) : Bool := Lib.validD (s.data.toList.drop p)
theorem val_end {s : ByteArray} {p : Nat} (h : ¬ p < s.size) : val s p = true := by
  unfold val
  rw [List.drop_of_length_le (by have := Lib.size_eq s; omega)]
  rfl
theorem val_next {s : ByteArray} {p : Nat} (h : p < s.size) : val s p = if (Utf8.decode s p).1 = 65533 ∧ (Utf8.decode s p).2 = 1 then false else val s (p + (Utf8.decode s p).2) := by
  unfold val
  have hne : s.data.toList.drop p ≠ [] := by
    intro e
    have := List.drop_eq_nil_iff.1 e
    have := Lib.size_eq s
    omega
  rw [Lib.validD_step _ hne, Lib.decodeL_drop, List.drop_drop]
/-- every character belongs: the first one to the class c, the others to the class d -/
def good (c d : Int) : List Int → Bool
  | [] => true
  | r :: t => isF (cls c) r && good d d t
def nameB (s : ByteArray) : Bool := good 2 3 (rs s) && decide (0 < s.size) && val s 0
def textsB (s : ByteArray) : Bool := good 0 0 (rs s) && val s 0
set_option maxRecDepth 100000 in
theorem nameB_a1 : nameB ⟨#[97, 45, 49]⟩ = true := by decide +kernel
end Gim
